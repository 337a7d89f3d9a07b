/-
  What the small functions on numbers do: Pick, Word, Arity, maxImm, ValidImm, Sort and OperandSort of patterns, sortIf, allValues.
-/
import Derived.Test.YtlehiklgbladoaaProg
import Derived.Test.YtlehiklgbladoaaViews
import Derived.Test.YtlehiklgbladoaaRef7
namespace Go.Proofs.Ytlehiklgbladoaa
open Go.RowKit

theorem ret_bool {p q : Prop} [Decidable p] [Decidable q] (h : p ↔ q) : Ending.returned (.bool (decide p)) = .returned (.bool (decide q)) := by simp [h]

set_option maxHeartbeats 400000 in
theorem pick_c (n m : Int) (w : World) (hm : 0 < m) (hm2 : m ≤ 4611686018427387904) :
    Calls Try.prog 14 #[.int .i64 n, .int .i64 m] w fun e w' => e = .returned (.int .i64 (n % m)) ∧ w = w' := by
  have H1 := Lib.hid (tmod_pick n m hm)
  have h2 := Int.tmod_lt_of_pos n hm
  have h3 := Int.lt_tmod_of_pos n hm
  by_cases ht : n.tmod m < 0
  · have H2 : Hid (n % m = n.tmod m + m) := by show _ = _; rw [H1.out, if_pos ht]
    go_enter Try.func14, Try.ntmps14
    go_wp2_with fail
    go_ret
    exact ⟨by rw [H2.out]; rfl, rfl⟩
  · have H2 : Hid (n % m = n.tmod m) := by show _ = _; rw [H1.out, if_neg ht]
    go_enter Try.func14, Try.ntmps14
    go_wp2_with fail
    go_ret
    exact ⟨by rw [H2.out]; rfl, rfl⟩

set_option maxHeartbeats 1000000 in
theorem arity_c (op : Int) (w : World) : Calls Try.prog 22 #[.int .i64 op] w fun e w' => e = .returned (.tuple #[.int .i64 (arityF op).1, .bool (arityF op).2]) ∧ w = w' := by
  go_enter Try.func22, Try.ntmps22
  go_wp2
  all_goals
    go_ret2
    refine ⟨?_, rfl⟩
    (try simp only [beq_iff_eq, beq_eq_false_iff_ne, ne_eq] at *)
    unfold arityF
    (repeat' split) <;> first | rfl | (exfalso; omega)

set_option maxHeartbeats 1000000 in
theorem maxImm_c (op : Int) (w : World) : Calls Try.prog 41 #[.int .i64 op] w fun e w' => e = .returned (.int .i64 (maxImmF op)) ∧ w = w' := by
  go_enter Try.func41, Try.ntmps41
  go_wp2
  all_goals
    go_ret
    refine ⟨?_, rfl⟩
    (try simp only [beq_iff_eq, beq_eq_false_iff_ne, ne_eq] at *)
    unfold maxImmF
    (repeat' split) <;> first | rfl | (exfalso; omega)

set_option maxHeartbeats 1000000 in
theorem validImm_c (op n : Int) (w : World) : Calls Try.prog 38 #[.int .i64 op, .int .i64 n] w fun e w' => e = .returned (.bool (validImmF op n)) ∧ w = w' := by
  obtain ⟨m, Hm⟩ : ∃ m, Hid (maxImmF op = m) := ⟨_, rfl⟩
  have Hv : Hid (validImmF op n = if op = 1 then true else if m < 0 then decide (n = 0) else decide (0 ≤ n ∧ n ≤ m ∧ (op ≠ 27 ∨ 0 < n))) := by show _ = _; unfold validImmF; rw [Hm.out]
  have C1 := Lib.hid (maxImm_c op w)
  rw [Hm.out] at C1
  go_enter Try.func38, Try.ntmps38
  go_wp2_with (go_at_call 41; refine C1.out.mono ?_; rintro e w' ⟨rfl, rfl⟩)
  all_goals
    go_ret
    refine ⟨?_, rfl⟩
    rw [Hv.out]
    (try simp only [beq_iff_eq, beq_eq_false_iff_ne, ne_eq] at *)
    (repeat' split) <;> first | rfl | (exfalso; omega) | (simp; omega) | exact ret_bool (by omega)

set_option maxHeartbeats 1000000 in
theorem pSort_c (op : Int) (w : World) : Calls Try.prog 33 #[.int .i64 op] w fun e w' => e = .returned (.int .i64 (pSortF op)) ∧ w = w' := by
  go_enter Try.func33, Try.ntmps33
  go_wp2
  all_goals
    go_ret
    refine ⟨?_, rfl⟩
    (try simp only [beq_iff_eq, beq_eq_false_iff_ne, ne_eq] at *)
    unfold pSortF
    (repeat' split) <;> first | rfl | (exfalso; omega)

set_option maxHeartbeats 1000000 in
theorem operandSort_c (op k : Int) (w : World) : Calls Try.prog 24 #[.int .i64 op, .int .i64 k] w fun e w' => e = .returned (.int .i64 (operandSortF op k)) ∧ w = w' := by
  obtain ⟨m, Hm⟩ : ∃ m, Hid (pSortF op = m) := ⟨_, rfl⟩
  have Hv : Hid (operandSortF op k = if k = 0 ∧ (m = 2 ∨ op = 23 ∨ op = 24) then 2 else 1) := by show _ = _; unfold operandSortF; rw [Hm.out]
  have C1 := Lib.hid (pSort_c op w)
  rw [Hm.out] at C1
  go_enter Try.func24, Try.ntmps24
  go_wp2_with (go_at_call 33; refine C1.out.mono ?_; rintro e w' ⟨rfl, rfl⟩)
  all_goals
    go_ret
    refine ⟨?_, rfl⟩
    rw [Hv.out]
    (try simp only [beq_iff_eq, beq_eq_false_iff_ne, ne_eq] at *)
    (repeat' split) <;> first | rfl | (exfalso; omega)

theorem sortIf_c (b : Bool) (n : Int) (w : World) : Calls Try.prog 39 #[.bool b, .int .i64 n] w fun e w' => e = .returned (.int .i64 (sortIfF b n)) ∧ w = w' := by
  cases b
  all_goals
    go_enter Try.func39, Try.ntmps39
    go_wp2
    go_ret
    exact ⟨rfl, rfl⟩

set_option maxHeartbeats 400000 in
theorem allValues_c (w : World) (F : Nat → Prop) (A : Option Addr) (c : Nat) (xs : List Int) (hx : Ints w F A xs) (hl : xs.length ≤ 1000000000000) :
    Calls Try.prog 40 #[.slice A xs.length c] w fun e w' => e = .returned (.bool (allOne xs)) ∧ w = w' := by
  go_enter Try.func40, Try.ntmps40
  go_wp2_with fail
  go_loopg [3] xs.length (fun g i wr => ∃ k : Nat, Hid (g = xs.length - k) ∧ k ≤ xs.length ∧ i = .int .i64 k ∧ Hid (allOne (xs.take k) = true) ∧ w = wr)
  case atStart => exact ⟨0, rfl, by omega, rfl, rfl, rfl⟩
  case round =>
    obtain ⟨k, Hg, hk, rfl, Hp, rfl⟩ := hrel
    by_cases hlt : k < xs.length
    · obtain ⟨b1, o1, rfl, _, _, h1⟩ := hx.at_ hlt
      have HT : Hid (allOne (xs.take (k + 1)) = decide (xs[k] = 1)) := by
        show _ = _
        unfold allOne
        rw [List.take_succ_eq_append_getElem hlt, List.all_append]
        have := Hp.out
        unfold allOne at this
        rw [this]; simp
      have HNE : Hid (xs[k] ≠ 1 → allOne xs = false) := by
        intro h; unfold allOne; rw [List.all_eq_false]; exact ⟨xs[k], List.getElem_mem hlt, by simpa using h⟩
      generalize xs[k] = x at *
      by_cases he : x = 1
      · subst he
        go_wp2_with fail
        go_roundg (xs.length - (k + 1))
        case measure => rw [Hg.out]; omega
        case rel => exact ⟨k + 1, rfl, by omega, by go_num, by show _ = _; rw [HT.out]; rfl, rfl⟩
      · have hf := Lib.hid (HNE.out he)
        have hb : (x != 1) = true := by simp [he]
        clear he
        go_wp2_with fail
        go_ret
        exact ⟨by rw [hf.out]; rfl, rfl⟩
    · obtain rfl : xs.length = k := by omega
      rw [List.take_length] at Hp
      go_wp2_with fail
      go_ret
      exact ⟨by rw [Hp.out]; rfl, rfl⟩
end Go.Proofs.Ytlehiklgbladoaa
