/-
  What the small functions on numbers do: Pick, Word, Arity, maxImm, ValidImm, Sort and OperandSort of patterns, sortIf, allValues.
  What keep.Word does.
-/
import Derived.Test.YtnefhokojbkppaaProg
import Derived.Test.YtnefhokojbkppaaGe
import Derived.Test.YtnefhokojbkppaaCong
namespace Go.Proofs.Ytnefhokojbkppaa
open Go.RowKit

theorem ret_bool {p q : Prop} [Decidable p] [Decidable q] (h : p ↔ q) : Ending.returned (.bool (decide p)) = .returned (.bool (decide q)) := by simp [h]

set_option maxHeartbeats 400000 in
theorem pick_c (n m : Int) (w : World) (hm : 0 < m) (hm2 : m ≤ 4611686018427387904) :
    Calls Try.prog 17 #[.int .i64 n, .int .i64 m] w fun e w' => e = .returned (.int .i64 (n % m)) ∧ w = w' := by
  have H1 := Lib.hid (tmod_pick n m hm)
  have h2 := Int.tmod_lt_of_pos n hm
  have h3 := Int.lt_tmod_of_pos n hm
  by_cases ht : n.tmod m < 0
  · have H2 : Hid (n % m = n.tmod m + m) := by show _ = _; rw [H1.out, if_pos ht]
    go_enter Try.func17, Try.ntmps17
    go_wp2_with fail
    go_ret
    exact ⟨by rw [H2.out]; rfl, rfl⟩
  · have H2 : Hid (n % m = n.tmod m) := by show _ = _; rw [H1.out, if_neg ht]
    go_enter Try.func17, Try.ntmps17
    go_wp2_with fail
    go_ret
    exact ⟨by rw [H2.out]; rfl, rfl⟩

set_option maxHeartbeats 1000000 in
theorem arity_c (op : Int) (w : World) : Calls Try.prog 36 #[.int .i64 op] w fun e w' => e = .returned (.tuple #[.int .i64 (arityF op).1, .bool (arityF op).2]) ∧ w = w' := by
  go_enter Try.func36, Try.ntmps36
  go_wp2
  all_goals
    go_ret2
    refine ⟨?_, rfl⟩
    (try simp only [beq_iff_eq, beq_eq_false_iff_ne, ne_eq] at *)
    unfold arityF
    (repeat' split) <;> first | rfl | (exfalso; omega)

set_option maxHeartbeats 1000000 in
theorem maxImm_c (op : Int) (w : World) : Calls Try.prog 69 #[.int .i64 op] w fun e w' => e = .returned (.int .i64 (maxImmF op)) ∧ w = w' := by
  go_enter Try.func69, Try.ntmps69
  go_wp2
  all_goals
    go_ret
    refine ⟨?_, rfl⟩
    (try simp only [beq_iff_eq, beq_eq_false_iff_ne, ne_eq] at *)
    unfold maxImmF
    (repeat' split) <;> first | rfl | (exfalso; omega)

set_option maxHeartbeats 1000000 in
theorem validImm_c (op n : Int) (w : World) : Calls Try.prog 51 #[.int .i64 op, .int .i64 n] w fun e w' => e = .returned (.bool (validImmF op n)) ∧ w = w' := by
  obtain ⟨m, Hm⟩ : ∃ m, Hid (maxImmF op = m) := ⟨_, rfl⟩
  have Hv : Hid (validImmF op n = if op = 1 then true else if m < 0 then decide (n = 0) else decide (0 ≤ n ∧ n ≤ m ∧ (op ≠ 27 ∨ 0 < n))) := by show _ = _; unfold validImmF; rw [Hm.out]
  have C1 := Lib.hid (maxImm_c op w)
  rw [Hm.out] at C1
  go_enter Try.func51, Try.ntmps51
  go_wp2_with (go_at_call 69; refine C1.out.mono ?_; rintro e w' ⟨rfl, rfl⟩)
  all_goals
    go_ret
    refine ⟨?_, rfl⟩
    rw [Hv.out]
    (try simp only [beq_iff_eq, beq_eq_false_iff_ne, ne_eq] at *)
    (repeat' split) <;> first | rfl | (exfalso; omega) | (simp; omega) | exact ret_bool (by omega)

set_option maxHeartbeats 1000000 in
theorem pSort_c (op : Int) (w : World) : Calls Try.prog 50 #[.int .i64 op] w fun e w' => e = .returned (.int .i64 (pSortF op)) ∧ w = w' := by
  go_enter Try.func50, Try.ntmps50
  go_wp2
  all_goals
    go_ret
    refine ⟨?_, rfl⟩
    (try simp only [beq_iff_eq, beq_eq_false_iff_ne, ne_eq] at *)
    unfold pSortF
    (repeat' split) <;> first | rfl | (exfalso; omega)

set_option maxHeartbeats 1000000 in
theorem operandSort_c (op k : Int) (w : World) : Calls Try.prog 37 #[.int .i64 op, .int .i64 k] w fun e w' => e = .returned (.int .i64 (operandSortF op k)) ∧ w = w' := by
  obtain ⟨m, Hm⟩ : ∃ m, Hid (pSortF op = m) := ⟨_, rfl⟩
  have Hv : Hid (operandSortF op k = if k = 0 ∧ (m = 2 ∨ op = 23 ∨ op = 24) then 2 else 1) := by show _ = _; unfold operandSortF; rw [Hm.out]
  have C1 := Lib.hid (pSort_c op w)
  rw [Hm.out] at C1
  go_enter Try.func37, Try.ntmps37
  go_wp2_with (go_at_call 50; refine C1.out.mono ?_; rintro e w' ⟨rfl, rfl⟩)
  all_goals
    go_ret
    refine ⟨?_, rfl⟩
    rw [Hv.out]
    (try simp only [beq_iff_eq, beq_eq_false_iff_ne, ne_eq] at *)
    (repeat' split) <;> first | rfl | (exfalso; omega)


end Go.Proofs.Ytnefhokojbkppaa

namespace Go.Proofs.Ytnefhokojbkppaa
open Go.RowKit

theorem edges_get {k : Nat} (hk : k = 0 ∨ k = 1 ∨ k = 2 ∨ k = 3 ∨ k = 4 ∨ k = 5 ∨ k = 6 ∨ k = 7 ∨ k = 8 ∨ k = 9) {h : k < [Value.int IntKind.i64 0, Value.int IntKind.i64 1, Value.int IntKind.i64 (-1), Value.int IntKind.i64 2, Value.int IntKind.i64 (-9223372036854775808), Value.int IntKind.i64 9223372036854775807, Value.int IntKind.i64 4294967296, Value.int IntKind.i64 (-2147483648), Value.int IntKind.i64 63, Value.int IntKind.i64 64].length} :
    [Value.int IntKind.i64 0, Value.int IntKind.i64 1, Value.int IntKind.i64 (-1), Value.int IntKind.i64 2, Value.int IntKind.i64 (-9223372036854775808), Value.int IntKind.i64 9223372036854775807, Value.int IntKind.i64 4294967296, Value.int IntKind.i64 (-2147483648), Value.int IntKind.i64 63, Value.int IntKind.i64 64][k] = Value.int .i64 (edgesF.getD k 0) := by
  rcases hk with rfl | rfl | rfl | rfl | rfl | rfl | rfl | rfl | rfl | rfl <;> simp [edgesF]
theorem wrap64_of {x : Int} (h : I64 x) : wrap64 x = x := by unfold wrap64; unfold I64 at h; omega

set_option maxHeartbeats 1000000 in
theorem word_c (w : World) (n raw : Int) (hn : I64 n) : Calls Try.prog 35 #[.int .i64 n, .int .i64 raw] w fun e w' => e = .returned (.int .i64 (wordF n raw)) ∧ Upd Non w w' := by
  have hm1 := Int.emod_nonneg n (show (24 : Int) ≠ 0 by omega)
  have hm2 := Int.emod_lt_of_pos n (show (0 : Int) < 24 by omega)
  have HW : Hid (wordF n raw = if n % 24 < 10 then edgesF.getD (n % 24).toNat 0 else if n % 24 < 22 then (n.tdiv 24) % 17 - 6 else raw) := rfl
  have C1 := fun (W : World) => pick_c n 24 W (by omega) (by omega)
  obtain ⟨q, Hq⟩ : ∃ q, Hid (n % 24 = q) := nm _
  rw [Hq.out] at hm1 hm2 HW
  obtain ⟨k, rfl⟩ := Int.eq_ofNat_of_zero_le hm1
  simp only [Hq.out] at C1
  have C1 := Lib.hid C1
  by_cases h1 : k < 10
  · have HW2 : Hid (wordF n raw = edgesF.getD k 0) := by show _ = _; rw [HW.out, if_pos (by omega)]; simp
    go_enter Try.func35, Try.ntmps35
    go_wp2_with fail
    refine (C1.out _).mono ?_
    rintro e w2 ⟨rfl, rfl⟩
    have hk : k = 0 ∨ k = 1 ∨ k = 2 ∨ k = 3 ∨ k = 4 ∨ k = 5 ∨ k = 6 ∨ k = 7 ∨ k = 8 ∨ k = 9 := by omega
    clear HW C1 hm1 hm2 Hq
    go_wp2_with fail
    go_ret
    refine ⟨?_, Upd.refl.alloc _⟩
    rw [HW2.out]
    exact congrArg (fun x => Ending.returned x) (edges_get hk)
  · by_cases h2 : k < 22
    · have HW2 : Hid (wordF n raw = (n.tdiv 24) % 17 - 6) := by show _ = _; rw [HW.out, if_neg (by omega), if_pos (by omega)]
      have m1 := Int.emod_nonneg (n.tdiv 24) (show (17 : Int) ≠ 0 by omega)
      have m2 := Int.emod_lt_of_pos (n.tdiv 24) (show (0 : Int) < 17 by omega)
      have C2 := Lib.hid (fun (W : World) => pick_c (n.tdiv 24) 17 W (by omega) (by omega))
      have e1 : wrap64 (n.tdiv 24) = n.tdiv 24 := wrap64_of (hn.tdiv 24 (by omega))
      generalize (n.tdiv 24) % 17 = x at *
      go_enter Try.func35, Try.ntmps35
      go_wp2_with fail
      refine (C1.out _).mono ?_
      rintro e w2 ⟨rfl, rfl⟩
      clear HW C1 Hq
      go_wp2_with fail
      refine (C2.out _).mono ?_
      rintro e w2 ⟨rfl, rfl⟩
      go_wp2_with fail
      go_ret
      exact ⟨by rw [HW2.out]; rfl, Upd.refl.alloc _⟩
    · have HW2 : Hid (wordF n raw = raw) := by show _ = _; rw [HW.out, if_neg (by omega), if_neg (by omega)]
      go_enter Try.func35, Try.ntmps35
      go_wp2_with fail
      refine (C1.out _).mono ?_
      rintro e w2 ⟨rfl, rfl⟩
      clear HW C1 Hq
      go_wp2_with fail
      go_ret
      exact ⟨by rw [HW2.out]; rfl, Upd.refl.alloc _⟩
end Go.Proofs.Ytnefhokojbkppaa
