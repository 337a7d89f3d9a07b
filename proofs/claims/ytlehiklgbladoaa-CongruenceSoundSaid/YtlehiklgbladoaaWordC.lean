/-
  What keep.Word does.
-/
import Derived.Test.YtlehiklgbladoaaScal
namespace Go.Proofs.Ytlehiklgbladoaa
open Go.RowKit

theorem edges_get {k : Nat} (hk : k = 0 ∨ k = 1 ∨ k = 2 ∨ k = 3 ∨ k = 4 ∨ k = 5 ∨ k = 6 ∨ k = 7 ∨ k = 8 ∨ k = 9) {h : k < [Value.int IntKind.i64 0, Value.int IntKind.i64 1, Value.int IntKind.i64 (-1), Value.int IntKind.i64 2, Value.int IntKind.i64 (-9223372036854775808), Value.int IntKind.i64 9223372036854775807, Value.int IntKind.i64 4294967296, Value.int IntKind.i64 (-2147483648), Value.int IntKind.i64 63, Value.int IntKind.i64 64].length} :
    [Value.int IntKind.i64 0, Value.int IntKind.i64 1, Value.int IntKind.i64 (-1), Value.int IntKind.i64 2, Value.int IntKind.i64 (-9223372036854775808), Value.int IntKind.i64 9223372036854775807, Value.int IntKind.i64 4294967296, Value.int IntKind.i64 (-2147483648), Value.int IntKind.i64 63, Value.int IntKind.i64 64][k] = Value.int .i64 (edgesF.getD k 0) := by
  rcases hk with rfl | rfl | rfl | rfl | rfl | rfl | rfl | rfl | rfl | rfl <;> simp [edgesF]
theorem wrap64_of {x : Int} (h : I64 x) : wrap64 x = x := by unfold wrap64; unfold I64 at h; omega

set_option maxHeartbeats 1000000 in
theorem word_c (w : World) (n raw : Int) (hn : I64 n) : Calls Try.prog 15 #[.int .i64 n, .int .i64 raw] w fun e w' => e = .returned (.int .i64 (wordF n raw)) ∧ Upd Non w w' := by
  have hm1 := Int.emod_nonneg n (show (24 : Int) ≠ 0 by omega)
  have hm2 := Int.emod_lt_of_pos n (show (0 : Int) < 24 by omega)
  have HW : Hid (wordF n raw = if n % 24 < 10 then edgesF.getD (n % 24).toNat 0 else if n % 24 < 22 then (n.tdiv 24) % 17 - 6 else raw) := rfl
  have C1 := fun (W : World) => pick_c n 24 W (by omega) (by omega)
  obtain ⟨q, Hq⟩ : ∃ q, Hid (n % 24 = q) := nm _
  rw [Hq.out] at hm1 hm2 HW
  obtain ⟨k, rfl⟩ := Int.eq_ofNat_of_zero_le hm1
  simp only [Hq.out] at C1
  have C1 := Lib.hid C1
  by_cases h1 : k < 10
  · have HW2 : Hid (wordF n raw = edgesF.getD k 0) := by show _ = _; rw [HW.out, if_pos (by omega)]; simp
    go_enter Try.func15, Try.ntmps15
    go_wp2_with fail
    refine (C1.out _).mono ?_
    rintro e w2 ⟨rfl, rfl⟩
    have hk : k = 0 ∨ k = 1 ∨ k = 2 ∨ k = 3 ∨ k = 4 ∨ k = 5 ∨ k = 6 ∨ k = 7 ∨ k = 8 ∨ k = 9 := by omega
    clear HW C1 hm1 hm2 Hq
    go_wp2_with fail
    go_ret
    refine ⟨?_, Upd.refl.alloc _⟩
    rw [HW2.out]
    exact congrArg (fun x => Ending.returned x) (edges_get hk)
  · by_cases h2 : k < 22
    · have HW2 : Hid (wordF n raw = (n.tdiv 24) % 17 - 6) := by show _ = _; rw [HW.out, if_neg (by omega), if_pos (by omega)]
      have m1 := Int.emod_nonneg (n.tdiv 24) (show (17 : Int) ≠ 0 by omega)
      have m2 := Int.emod_lt_of_pos (n.tdiv 24) (show (0 : Int) < 17 by omega)
      have C2 := Lib.hid (fun (W : World) => pick_c (n.tdiv 24) 17 W (by omega) (by omega))
      have e1 : wrap64 (n.tdiv 24) = n.tdiv 24 := wrap64_of (hn.tdiv 24 (by omega))
      generalize (n.tdiv 24) % 17 = x at *
      go_enter Try.func15, Try.ntmps15
      go_wp2_with fail
      refine (C1.out _).mono ?_
      rintro e w2 ⟨rfl, rfl⟩
      clear HW C1 Hq
      go_wp2_with fail
      refine (C2.out _).mono ?_
      rintro e w2 ⟨rfl, rfl⟩
      go_wp2_with fail
      go_ret
      exact ⟨by rw [HW2.out]; rfl, Upd.refl.alloc _⟩
    · have HW2 : Hid (wordF n raw = raw) := by show _ = _; rw [HW.out, if_neg (by omega), if_neg (by omega)]
      go_enter Try.func15, Try.ntmps15
      go_wp2_with fail
      refine (C1.out _).mono ?_
      rintro e w2 ⟨rfl, rfl⟩
      clear HW C1 Hq
      go_wp2_with fail
      go_ret
      exact ⟨by rw [HW2.out]; rfl, Upd.refl.alloc _⟩
end Go.Proofs.Ytlehiklgbladoaa
