/-
  What the small functions on numbers do: Pick, Word, Arity, maxImm, ValidImm, Sort and OperandSort of patterns, sortIf, allValues.
  What keep.Word does.
-/
import Derived.Test.YtigambcefdeaoaaProg
import Derived.Test.YtigambcefdeaoaaViews
import Derived.Test.YtigambcefdeaoaaCong
namespace Go.Proofs.Ytigambcefdeaoaa
open Go.RowKit

theorem ret_bool {p q : Prop} [Decidable p] [Decidable q] (h : p ↔ q) : Ending.returned (.bool (decide p)) = .returned (.bool (decide q)) := by simp [h]

set_option maxHeartbeats 400000 in
theorem pick_c (n m : Int) (w : World) (hm : 0 < m) (hm2 : m ≤ 4611686018427387904) :
    Calls Try.prog 16 #[.int .i64 n, .int .i64 m] w fun e w' => e = .returned (.int .i64 (n % m)) ∧ w = w' := by
  have H1 := Lib.hid (tmod_pick n m hm)
  have h2 := Int.tmod_lt_of_pos n hm
  have h3 := Int.lt_tmod_of_pos n hm
  by_cases ht : n.tmod m < 0
  · have H2 : Hid (n % m = n.tmod m + m) := by show _ = _; rw [H1.out, if_pos ht]
    go_enter Try.func16, Try.ntmps16
    go_wp2_with fail
    go_ret
    exact ⟨by rw [H2.out]; rfl, rfl⟩
  · have H2 : Hid (n % m = n.tmod m) := by show _ = _; rw [H1.out, if_neg ht]
    go_enter Try.func16, Try.ntmps16
    go_wp2_with fail
    go_ret
    exact ⟨by rw [H2.out]; rfl, rfl⟩

set_option maxHeartbeats 1000000 in
theorem arity_c (op : Int) (w : World) : Calls Try.prog 42 #[.int .i64 op] w fun e w' => e = .returned (.tuple #[.int .i64 (arityF op).1, .bool (arityF op).2]) ∧ w = w' := by
  go_enter Try.func42, Try.ntmps42
  go_wp2
  all_goals
    go_ret2
    refine ⟨?_, rfl⟩
    (try simp only [beq_iff_eq, beq_eq_false_iff_ne, ne_eq] at *)
    unfold arityF
    (repeat' split) <;> first | rfl | (exfalso; omega)

set_option maxHeartbeats 1000000 in
theorem maxImm_c (op : Int) (w : World) : Calls Try.prog 78 #[.int .i64 op] w fun e w' => e = .returned (.int .i64 (maxImmF op)) ∧ w = w' := by
  go_enter Try.func78, Try.ntmps78
  go_wp2
  all_goals
    go_ret
    refine ⟨?_, rfl⟩
    (try simp only [beq_iff_eq, beq_eq_false_iff_ne, ne_eq] at *)
    unfold maxImmF
    (repeat' split) <;> first | rfl | (exfalso; omega)

set_option maxHeartbeats 1000000 in
theorem validImm_c (op n : Int) (w : World) : Calls Try.prog 73 #[.int .i64 op, .int .i64 n] w fun e w' => e = .returned (.bool (validImmF op n)) ∧ w = w' := by
  obtain ⟨m, Hm⟩ : ∃ m, Hid (maxImmF op = m) := ⟨_, rfl⟩
  have Hv : Hid (validImmF op n = if op = 1 then true else if m < 0 then decide (n = 0) else decide (0 ≤ n ∧ n ≤ m ∧ (op ≠ 27 ∨ 0 < n))) := by show _ = _; unfold validImmF; rw [Hm.out]
  have C1 := Lib.hid (maxImm_c op w)
  rw [Hm.out] at C1
  go_enter Try.func73, Try.ntmps73
  go_wp2_with (go_at_call 78; refine C1.out.mono ?_; rintro e w' ⟨rfl, rfl⟩)
  all_goals
    go_ret
    refine ⟨?_, rfl⟩
    rw [Hv.out]
    (try simp only [beq_iff_eq, beq_eq_false_iff_ne, ne_eq] at *)
    (repeat' split) <;> first | rfl | (exfalso; omega) | (simp; omega) | exact ret_bool (by omega)

set_option maxHeartbeats 1000000 in
theorem pSort_c (op : Int) (w : World) : Calls Try.prog 68 #[.int .i64 op] w fun e w' => e = .returned (.int .i64 (pSortF op)) ∧ w = w' := by
  go_enter Try.func68, Try.ntmps68
  go_wp2
  all_goals
    go_ret
    refine ⟨?_, rfl⟩
    (try simp only [beq_iff_eq, beq_eq_false_iff_ne, ne_eq] at *)
    unfold pSortF
    (repeat' split) <;> first | rfl | (exfalso; omega)

set_option maxHeartbeats 1000000 in
theorem operandSort_c (op k : Int) (w : World) : Calls Try.prog 44 #[.int .i64 op, .int .i64 k] w fun e w' => e = .returned (.int .i64 (operandSortF op k)) ∧ w = w' := by
  obtain ⟨m, Hm⟩ : ∃ m, Hid (pSortF op = m) := ⟨_, rfl⟩
  have Hv : Hid (operandSortF op k = if k = 0 ∧ (m = 2 ∨ op = 23 ∨ op = 24) then 2 else 1) := by show _ = _; unfold operandSortF; rw [Hm.out]
  have C1 := Lib.hid (pSort_c op w)
  rw [Hm.out] at C1
  go_enter Try.func44, Try.ntmps44
  go_wp2_with (go_at_call 68; refine C1.out.mono ?_; rintro e w' ⟨rfl, rfl⟩)
  all_goals
    go_ret
    refine ⟨?_, rfl⟩
    rw [Hv.out]
    (try simp only [beq_iff_eq, beq_eq_false_iff_ne, ne_eq] at *)
    (repeat' split) <;> first | rfl | (exfalso; omega)

theorem sortIf_c (b : Bool) (n : Int) (w : World) : Calls Try.prog 74 #[.bool b, .int .i64 n] w fun e w' => e = .returned (.int .i64 (sortIfF b n)) ∧ w = w' := by
  cases b
  all_goals
    go_enter Try.func74, Try.ntmps74
    go_wp2
    go_ret
    exact ⟨rfl, rfl⟩

set_option maxHeartbeats 400000 in
theorem allValues_c (w : World) (F : Nat → Prop) (A : Option Addr) (c : Nat) (xs : List Int) (hx : Ints w F A xs) (hl : xs.length ≤ 1000000000000) :
    Calls Try.prog 75 #[.slice A xs.length c] w fun e w' => e = .returned (.bool (allOne xs)) ∧ w = w' := by
  go_enter Try.func75, Try.ntmps75
  go_wp2_with fail
  go_loopg [3] xs.length (fun g i wr => ∃ k : Nat, Hid (g = xs.length - k) ∧ k ≤ xs.length ∧ i = .int .i64 k ∧ Hid (allOne (xs.take k) = true) ∧ w = wr)
  case atStart => exact ⟨0, rfl, by omega, rfl, rfl, rfl⟩
  case round =>
    obtain ⟨k, Hg, hk, rfl, Hp, rfl⟩ := hrel
    by_cases hlt : k < xs.length
    · obtain ⟨b1, o1, rfl, _, _, h1⟩ := hx.at_ hlt
      have HT : Hid (allOne (xs.take (k + 1)) = decide (xs[k] = 1)) := by
        show _ = _
        unfold allOne
        rw [List.take_succ_eq_append_getElem hlt, List.all_append]
        have := Hp.out
        unfold allOne at this
        rw [this]; simp
      have HNE : Hid (xs[k] ≠ 1 → allOne xs = false) := by
        intro h; unfold allOne; rw [List.all_eq_false]; exact ⟨xs[k], List.getElem_mem hlt, by simpa using h⟩
      generalize xs[k] = x at *
      by_cases he : x = 1
      · subst he
        go_wp2_with fail
        go_roundg (xs.length - (k + 1))
        case measure => rw [Hg.out]; omega
        case rel => exact ⟨k + 1, rfl, by omega, by go_num, by show _ = _; rw [HT.out]; rfl, rfl⟩
      · have hf := Lib.hid (HNE.out he)
        have hb : (x != 1) = true := by simp [he]
        clear he
        go_wp2_with fail
        go_ret
        exact ⟨by rw [hf.out]; rfl, rfl⟩
    · obtain rfl : xs.length = k := by omega
      rw [List.take_length] at Hp
      go_wp2_with fail
      go_ret
      exact ⟨by rw [Hp.out]; rfl, rfl⟩
end Go.Proofs.Ytigambcefdeaoaa

namespace Go.Proofs.Ytigambcefdeaoaa
open Go.RowKit

theorem edges_get {k : Nat} (hk : k = 0 ∨ k = 1 ∨ k = 2 ∨ k = 3 ∨ k = 4 ∨ k = 5 ∨ k = 6 ∨ k = 7 ∨ k = 8 ∨ k = 9) {h : k < [Value.int IntKind.i64 0, Value.int IntKind.i64 1, Value.int IntKind.i64 (-1), Value.int IntKind.i64 2, Value.int IntKind.i64 (-9223372036854775808), Value.int IntKind.i64 9223372036854775807, Value.int IntKind.i64 4294967296, Value.int IntKind.i64 (-2147483648), Value.int IntKind.i64 63, Value.int IntKind.i64 64].length} :
    [Value.int IntKind.i64 0, Value.int IntKind.i64 1, Value.int IntKind.i64 (-1), Value.int IntKind.i64 2, Value.int IntKind.i64 (-9223372036854775808), Value.int IntKind.i64 9223372036854775807, Value.int IntKind.i64 4294967296, Value.int IntKind.i64 (-2147483648), Value.int IntKind.i64 63, Value.int IntKind.i64 64][k] = Value.int .i64 (edgesF.getD k 0) := by
  rcases hk with rfl | rfl | rfl | rfl | rfl | rfl | rfl | rfl | rfl | rfl <;> simp [edgesF]
theorem wrap64_of {x : Int} (h : I64 x) : wrap64 x = x := by unfold wrap64; unfold I64 at h; omega

set_option maxHeartbeats 1000000 in
theorem word_c (w : World) (n raw : Int) (hn : I64 n) : Calls Try.prog 41 #[.int .i64 n, .int .i64 raw] w fun e w' => e = .returned (.int .i64 (wordF n raw)) ∧ Upd Non w w' := by
  have hm1 := Int.emod_nonneg n (show (24 : Int) ≠ 0 by omega)
  have hm2 := Int.emod_lt_of_pos n (show (0 : Int) < 24 by omega)
  have HW : Hid (wordF n raw = if n % 24 < 10 then edgesF.getD (n % 24).toNat 0 else if n % 24 < 22 then (n.tdiv 24) % 17 - 6 else raw) := rfl
  have C1 := fun (W : World) => pick_c n 24 W (by omega) (by omega)
  obtain ⟨q, Hq⟩ : ∃ q, Hid (n % 24 = q) := nm _
  rw [Hq.out] at hm1 hm2 HW
  obtain ⟨k, rfl⟩ := Int.eq_ofNat_of_zero_le hm1
  simp only [Hq.out] at C1
  have C1 := Lib.hid C1
  by_cases h1 : k < 10
  · have HW2 : Hid (wordF n raw = edgesF.getD k 0) := by show _ = _; rw [HW.out, if_pos (by omega)]; simp
    go_enter Try.func41, Try.ntmps41
    go_wp2_with fail
    refine (C1.out _).mono ?_
    rintro e w2 ⟨rfl, rfl⟩
    have hk : k = 0 ∨ k = 1 ∨ k = 2 ∨ k = 3 ∨ k = 4 ∨ k = 5 ∨ k = 6 ∨ k = 7 ∨ k = 8 ∨ k = 9 := by omega
    clear HW C1 hm1 hm2 Hq
    go_wp2_with fail
    go_ret
    refine ⟨?_, Upd.refl.alloc _⟩
    rw [HW2.out]
    exact congrArg (fun x => Ending.returned x) (edges_get hk)
  · by_cases h2 : k < 22
    · have HW2 : Hid (wordF n raw = (n.tdiv 24) % 17 - 6) := by show _ = _; rw [HW.out, if_neg (by omega), if_pos (by omega)]
      have m1 := Int.emod_nonneg (n.tdiv 24) (show (17 : Int) ≠ 0 by omega)
      have m2 := Int.emod_lt_of_pos (n.tdiv 24) (show (0 : Int) < 17 by omega)
      have C2 := Lib.hid (fun (W : World) => pick_c (n.tdiv 24) 17 W (by omega) (by omega))
      have e1 : wrap64 (n.tdiv 24) = n.tdiv 24 := wrap64_of (hn.tdiv 24 (by omega))
      generalize (n.tdiv 24) % 17 = x at *
      go_enter Try.func41, Try.ntmps41
      go_wp2_with fail
      refine (C1.out _).mono ?_
      rintro e w2 ⟨rfl, rfl⟩
      clear HW C1 Hq
      go_wp2_with fail
      refine (C2.out _).mono ?_
      rintro e w2 ⟨rfl, rfl⟩
      go_wp2_with fail
      go_ret
      exact ⟨by rw [HW2.out]; rfl, Upd.refl.alloc _⟩
    · have HW2 : Hid (wordF n raw = raw) := by show _ = _; rw [HW.out, if_neg (by omega), if_neg (by omega)]
      go_enter Try.func41, Try.ntmps41
      go_wp2_with fail
      refine (C1.out _).mono ?_
      rintro e w2 ⟨rfl, rfl⟩
      clear HW C1 Hq
      go_wp2_with fail
      go_ret
      exact ⟨by rw [HW2.out]; rfl, Upd.refl.alloc _⟩
end Go.Proofs.Ytigambcefdeaoaa
