/-
  Lemmas and walks that the claim rests on, part 10 (packed by a program).
-/
import Derived.Test.YtblkgjdhaibhgaaV9
import Derived.Test.YtblkgjdhaibhgaaV8
namespace Go.Proofs.Ytblkgjdhaibhgaa
open Go.RowKit
theorem rn_a1 : rnC rnP1 rnA1 = true ∧ (szB rnP1 && riB rnP1) = true := by decide +kernel
theorem rn_1_0 : (List.range 26).all (fun j => 0 == j || rnC rnP1 (rnB1 (UInt8.ofNat (97 + 0)) (UInt8.ofNat (97 + j)))) = true := by decide +kernel
theorem rn_1_1 : (List.range 26).all (fun j => 1 == j || rnC rnP1 (rnB1 (UInt8.ofNat (97 + 1)) (UInt8.ofNat (97 + j)))) = true := by decide +kernel
theorem rn_1_2 : (List.range 26).all (fun j => 2 == j || rnC rnP1 (rnB1 (UInt8.ofNat (97 + 2)) (UInt8.ofNat (97 + j)))) = true := by decide +kernel
theorem rn_1_3 : (List.range 26).all (fun j => 3 == j || rnC rnP1 (rnB1 (UInt8.ofNat (97 + 3)) (UInt8.ofNat (97 + j)))) = true := by decide +kernel
theorem rn_1_4 : (List.range 26).all (fun j => 4 == j || rnC rnP1 (rnB1 (UInt8.ofNat (97 + 4)) (UInt8.ofNat (97 + j)))) = true := by decide +kernel
theorem rn_1_5 : (List.range 26).all (fun j => 5 == j || rnC rnP1 (rnB1 (UInt8.ofNat (97 + 5)) (UInt8.ofNat (97 + j)))) = true := by decide +kernel
theorem rn_1_6 : (List.range 26).all (fun j => 6 == j || rnC rnP1 (rnB1 (UInt8.ofNat (97 + 6)) (UInt8.ofNat (97 + j)))) = true := by decide +kernel
theorem rn_1_7 : (List.range 26).all (fun j => 7 == j || rnC rnP1 (rnB1 (UInt8.ofNat (97 + 7)) (UInt8.ofNat (97 + j)))) = true := by decide +kernel
theorem rn_1_8 : (List.range 26).all (fun j => 8 == j || rnC rnP1 (rnB1 (UInt8.ofNat (97 + 8)) (UInt8.ofNat (97 + j)))) = true := by decide +kernel
theorem rn_1_9 : (List.range 26).all (fun j => 9 == j || rnC rnP1 (rnB1 (UInt8.ofNat (97 + 9)) (UInt8.ofNat (97 + j)))) = true := by decide +kernel
theorem rn_1_10 : (List.range 26).all (fun j => 10 == j || rnC rnP1 (rnB1 (UInt8.ofNat (97 + 10)) (UInt8.ofNat (97 + j)))) = true := by decide +kernel
theorem rn_1_11 : (List.range 26).all (fun j => 11 == j || rnC rnP1 (rnB1 (UInt8.ofNat (97 + 11)) (UInt8.ofNat (97 + j)))) = true := by decide +kernel
theorem rn_1_12 : (List.range 26).all (fun j => 12 == j || rnC rnP1 (rnB1 (UInt8.ofNat (97 + 12)) (UInt8.ofNat (97 + j)))) = true := by decide +kernel
theorem rn_1_13 : (List.range 26).all (fun j => 13 == j || rnC rnP1 (rnB1 (UInt8.ofNat (97 + 13)) (UInt8.ofNat (97 + j)))) = true := by decide +kernel
theorem rn_1_14 : (List.range 26).all (fun j => 14 == j || rnC rnP1 (rnB1 (UInt8.ofNat (97 + 14)) (UInt8.ofNat (97 + j)))) = true := by decide +kernel
theorem rn_1_15 : (List.range 26).all (fun j => 15 == j || rnC rnP1 (rnB1 (UInt8.ofNat (97 + 15)) (UInt8.ofNat (97 + j)))) = true := by decide +kernel
theorem rn_1_16 : (List.range 26).all (fun j => 16 == j || rnC rnP1 (rnB1 (UInt8.ofNat (97 + 16)) (UInt8.ofNat (97 + j)))) = true := by decide +kernel
theorem rn_1_17 : (List.range 26).all (fun j => 17 == j || rnC rnP1 (rnB1 (UInt8.ofNat (97 + 17)) (UInt8.ofNat (97 + j)))) = true := by decide +kernel
theorem rn_1_18 : (List.range 26).all (fun j => 18 == j || rnC rnP1 (rnB1 (UInt8.ofNat (97 + 18)) (UInt8.ofNat (97 + j)))) = true := by decide +kernel
theorem rn_1_19 : (List.range 26).all (fun j => 19 == j || rnC rnP1 (rnB1 (UInt8.ofNat (97 + 19)) (UInt8.ofNat (97 + j)))) = true := by decide +kernel
theorem rn_1_20 : (List.range 26).all (fun j => 20 == j || rnC rnP1 (rnB1 (UInt8.ofNat (97 + 20)) (UInt8.ofNat (97 + j)))) = true := by decide +kernel
theorem rn_1_21 : (List.range 26).all (fun j => 21 == j || rnC rnP1 (rnB1 (UInt8.ofNat (97 + 21)) (UInt8.ofNat (97 + j)))) = true := by decide +kernel
theorem rn_1_22 : (List.range 26).all (fun j => 22 == j || rnC rnP1 (rnB1 (UInt8.ofNat (97 + 22)) (UInt8.ofNat (97 + j)))) = true := by decide +kernel
theorem rn_1_23 : (List.range 26).all (fun j => 23 == j || rnC rnP1 (rnB1 (UInt8.ofNat (97 + 23)) (UInt8.ofNat (97 + j)))) = true := by decide +kernel
theorem rn_1_24 : (List.range 26).all (fun j => 24 == j || rnC rnP1 (rnB1 (UInt8.ofNat (97 + 24)) (UInt8.ofNat (97 + j)))) = true := by decide +kernel
theorem rn_1_25 : (List.range 26).all (fun j => 25 == j || rnC rnP1 (rnB1 (UInt8.ofNat (97 + 25)) (UInt8.ofNat (97 + j)))) = true := by decide +kernel
theorem rn_1 {i j : Nat} (hi : i < 26) (hj : j < 26) (h : i ≠ j) : parseF (rnB1 (UInt8.ofNat (97 + i)) (UInt8.ofNat (97 + j))) = .ok [rnP1] := by
 have key : ∀ b : Nat → Bool, ((List.range 26).all fun j => i == j || b j) = true → b j = true := fun b h1 => by
  have h2 := List.all_eq_true.1 h1 j (List.mem_range.2 hj)
  rw [Bool.or_eq_true, beq_iff_eq] at h2
  exact h2.resolve_left h
 have hc : i = 0 ∨ i = 1 ∨ i = 2 ∨ i = 3 ∨ i = 4 ∨ i = 5 ∨ i = 6 ∨ i = 7 ∨ i = 8 ∨ i = 9 ∨ i = 10 ∨ i = 11 ∨ i = 12 ∨ i = 13 ∨ i = 14 ∨ i = 15 ∨ i = 16 ∨ i = 17 ∨ i = 18 ∨ i = 19 ∨ i = 20 ∨ i = 21 ∨ i = 22 ∨ i = 23 ∨ i = 24 ∨ i = 25 := by omega
 rcases hc with rfl | rfl | rfl | rfl | rfl | rfl | rfl | rfl | rfl | rfl | rfl | rfl | rfl | rfl | rfl | rfl | rfl | rfl | rfl | rfl | rfl | rfl | rfl | rfl | rfl | rfl
 ·
  exact rnC_ok (key (fun j => rnC rnP1 (rnB1 (UInt8.ofNat (97 + 0)) (UInt8.ofNat (97 + j)))) rn_1_0)
 ·
  exact rnC_ok (key (fun j => rnC rnP1 (rnB1 (UInt8.ofNat (97 + 1)) (UInt8.ofNat (97 + j)))) rn_1_1)
 ·
  exact rnC_ok (key (fun j => rnC rnP1 (rnB1 (UInt8.ofNat (97 + 2)) (UInt8.ofNat (97 + j)))) rn_1_2)
 ·
  exact rnC_ok (key (fun j => rnC rnP1 (rnB1 (UInt8.ofNat (97 + 3)) (UInt8.ofNat (97 + j)))) rn_1_3)
 ·
  exact rnC_ok (key (fun j => rnC rnP1 (rnB1 (UInt8.ofNat (97 + 4)) (UInt8.ofNat (97 + j)))) rn_1_4)
 ·
  exact rnC_ok (key (fun j => rnC rnP1 (rnB1 (UInt8.ofNat (97 + 5)) (UInt8.ofNat (97 + j)))) rn_1_5)
 ·
  exact rnC_ok (key (fun j => rnC rnP1 (rnB1 (UInt8.ofNat (97 + 6)) (UInt8.ofNat (97 + j)))) rn_1_6)
 ·
  exact rnC_ok (key (fun j => rnC rnP1 (rnB1 (UInt8.ofNat (97 + 7)) (UInt8.ofNat (97 + j)))) rn_1_7)
 ·
  exact rnC_ok (key (fun j => rnC rnP1 (rnB1 (UInt8.ofNat (97 + 8)) (UInt8.ofNat (97 + j)))) rn_1_8)
 ·
  exact rnC_ok (key (fun j => rnC rnP1 (rnB1 (UInt8.ofNat (97 + 9)) (UInt8.ofNat (97 + j)))) rn_1_9)
 ·
  exact rnC_ok (key (fun j => rnC rnP1 (rnB1 (UInt8.ofNat (97 + 10)) (UInt8.ofNat (97 + j)))) rn_1_10)
 ·
  exact rnC_ok (key (fun j => rnC rnP1 (rnB1 (UInt8.ofNat (97 + 11)) (UInt8.ofNat (97 + j)))) rn_1_11)
 ·
  exact rnC_ok (key (fun j => rnC rnP1 (rnB1 (UInt8.ofNat (97 + 12)) (UInt8.ofNat (97 + j)))) rn_1_12)
 ·
  exact rnC_ok (key (fun j => rnC rnP1 (rnB1 (UInt8.ofNat (97 + 13)) (UInt8.ofNat (97 + j)))) rn_1_13)
 ·
  exact rnC_ok (key (fun j => rnC rnP1 (rnB1 (UInt8.ofNat (97 + 14)) (UInt8.ofNat (97 + j)))) rn_1_14)
 ·
  exact rnC_ok (key (fun j => rnC rnP1 (rnB1 (UInt8.ofNat (97 + 15)) (UInt8.ofNat (97 + j)))) rn_1_15)
 ·
  exact rnC_ok (key (fun j => rnC rnP1 (rnB1 (UInt8.ofNat (97 + 16)) (UInt8.ofNat (97 + j)))) rn_1_16)
 ·
  exact rnC_ok (key (fun j => rnC rnP1 (rnB1 (UInt8.ofNat (97 + 17)) (UInt8.ofNat (97 + j)))) rn_1_17)
 ·
  exact rnC_ok (key (fun j => rnC rnP1 (rnB1 (UInt8.ofNat (97 + 18)) (UInt8.ofNat (97 + j)))) rn_1_18)
 ·
  exact rnC_ok (key (fun j => rnC rnP1 (rnB1 (UInt8.ofNat (97 + 19)) (UInt8.ofNat (97 + j)))) rn_1_19)
 ·
  exact rnC_ok (key (fun j => rnC rnP1 (rnB1 (UInt8.ofNat (97 + 20)) (UInt8.ofNat (97 + j)))) rn_1_20)
 ·
  exact rnC_ok (key (fun j => rnC rnP1 (rnB1 (UInt8.ofNat (97 + 21)) (UInt8.ofNat (97 + j)))) rn_1_21)
 ·
  exact rnC_ok (key (fun j => rnC rnP1 (rnB1 (UInt8.ofNat (97 + 22)) (UInt8.ofNat (97 + j)))) rn_1_22)
 ·
  exact rnC_ok (key (fun j => rnC rnP1 (rnB1 (UInt8.ofNat (97 + 23)) (UInt8.ofNat (97 + j)))) rn_1_23)
 ·
  exact rnC_ok (key (fun j => rnC rnP1 (rnB1 (UInt8.ofNat (97 + 24)) (UInt8.ofNat (97 + j)))) rn_1_24)
 ·
  exact rnC_ok (key (fun j => rnC rnP1 (rnB1 (UInt8.ofNat (97 + 25)) (UInt8.ofNat (97 + j)))) rn_1_25)
theorem rn_p1 : parseF rnA1 = .ok [rnP1] ∧ RlSz rnP1 ∧ RlI rnP1 := by
 have h := rn_a1.2
 rw [Bool.and_eq_true] at h
 exact ⟨rnC_ok rn_a1.1, szB_ok h.1, riB_ok h.2⟩
end Go.Proofs.Ytblkgjdhaibhgaa
namespace Go.Proofs.Ytblkgjdhaibhgaa
open Go.RowKit
theorem rn_a2 : rnC rnP2 rnA2 = true ∧ (szB rnP2 && riB rnP2) = true := by decide +kernel
theorem rn_2_0 : (List.range 26).all (fun j => 0 == j || rnC rnP2 (rnB2 (UInt8.ofNat (97 + 0)) (UInt8.ofNat (97 + j)))) = true := by decide +kernel
theorem rn_2_1 : (List.range 26).all (fun j => 1 == j || rnC rnP2 (rnB2 (UInt8.ofNat (97 + 1)) (UInt8.ofNat (97 + j)))) = true := by decide +kernel
theorem rn_2_2 : (List.range 26).all (fun j => 2 == j || rnC rnP2 (rnB2 (UInt8.ofNat (97 + 2)) (UInt8.ofNat (97 + j)))) = true := by decide +kernel
theorem rn_2_3 : (List.range 26).all (fun j => 3 == j || rnC rnP2 (rnB2 (UInt8.ofNat (97 + 3)) (UInt8.ofNat (97 + j)))) = true := by decide +kernel
theorem rn_2_4 : (List.range 26).all (fun j => 4 == j || rnC rnP2 (rnB2 (UInt8.ofNat (97 + 4)) (UInt8.ofNat (97 + j)))) = true := by decide +kernel
theorem rn_2_5 : (List.range 26).all (fun j => 5 == j || rnC rnP2 (rnB2 (UInt8.ofNat (97 + 5)) (UInt8.ofNat (97 + j)))) = true := by decide +kernel
theorem rn_2_6 : (List.range 26).all (fun j => 6 == j || rnC rnP2 (rnB2 (UInt8.ofNat (97 + 6)) (UInt8.ofNat (97 + j)))) = true := by decide +kernel
theorem rn_2_7 : (List.range 26).all (fun j => 7 == j || rnC rnP2 (rnB2 (UInt8.ofNat (97 + 7)) (UInt8.ofNat (97 + j)))) = true := by decide +kernel
theorem rn_2_8 : (List.range 26).all (fun j => 8 == j || rnC rnP2 (rnB2 (UInt8.ofNat (97 + 8)) (UInt8.ofNat (97 + j)))) = true := by decide +kernel
theorem rn_2_9 : (List.range 26).all (fun j => 9 == j || rnC rnP2 (rnB2 (UInt8.ofNat (97 + 9)) (UInt8.ofNat (97 + j)))) = true := by decide +kernel
theorem rn_2_10 : (List.range 26).all (fun j => 10 == j || rnC rnP2 (rnB2 (UInt8.ofNat (97 + 10)) (UInt8.ofNat (97 + j)))) = true := by decide +kernel
theorem rn_2_11 : (List.range 26).all (fun j => 11 == j || rnC rnP2 (rnB2 (UInt8.ofNat (97 + 11)) (UInt8.ofNat (97 + j)))) = true := by decide +kernel
theorem rn_2_12 : (List.range 26).all (fun j => 12 == j || rnC rnP2 (rnB2 (UInt8.ofNat (97 + 12)) (UInt8.ofNat (97 + j)))) = true := by decide +kernel
theorem rn_2_13 : (List.range 26).all (fun j => 13 == j || rnC rnP2 (rnB2 (UInt8.ofNat (97 + 13)) (UInt8.ofNat (97 + j)))) = true := by decide +kernel
theorem rn_2_14 : (List.range 26).all (fun j => 14 == j || rnC rnP2 (rnB2 (UInt8.ofNat (97 + 14)) (UInt8.ofNat (97 + j)))) = true := by decide +kernel
theorem rn_2_15 : (List.range 26).all (fun j => 15 == j || rnC rnP2 (rnB2 (UInt8.ofNat (97 + 15)) (UInt8.ofNat (97 + j)))) = true := by decide +kernel
theorem rn_2_16 : (List.range 26).all (fun j => 16 == j || rnC rnP2 (rnB2 (UInt8.ofNat (97 + 16)) (UInt8.ofNat (97 + j)))) = true := by decide +kernel
theorem rn_2_17 : (List.range 26).all (fun j => 17 == j || rnC rnP2 (rnB2 (UInt8.ofNat (97 + 17)) (UInt8.ofNat (97 + j)))) = true := by decide +kernel
theorem rn_2_18 : (List.range 26).all (fun j => 18 == j || rnC rnP2 (rnB2 (UInt8.ofNat (97 + 18)) (UInt8.ofNat (97 + j)))) = true := by decide +kernel
theorem rn_2_19 : (List.range 26).all (fun j => 19 == j || rnC rnP2 (rnB2 (UInt8.ofNat (97 + 19)) (UInt8.ofNat (97 + j)))) = true := by decide +kernel
theorem rn_2_20 : (List.range 26).all (fun j => 20 == j || rnC rnP2 (rnB2 (UInt8.ofNat (97 + 20)) (UInt8.ofNat (97 + j)))) = true := by decide +kernel
theorem rn_2_21 : (List.range 26).all (fun j => 21 == j || rnC rnP2 (rnB2 (UInt8.ofNat (97 + 21)) (UInt8.ofNat (97 + j)))) = true := by decide +kernel
theorem rn_2_22 : (List.range 26).all (fun j => 22 == j || rnC rnP2 (rnB2 (UInt8.ofNat (97 + 22)) (UInt8.ofNat (97 + j)))) = true := by decide +kernel
theorem rn_2_23 : (List.range 26).all (fun j => 23 == j || rnC rnP2 (rnB2 (UInt8.ofNat (97 + 23)) (UInt8.ofNat (97 + j)))) = true := by decide +kernel
theorem rn_2_24 : (List.range 26).all (fun j => 24 == j || rnC rnP2 (rnB2 (UInt8.ofNat (97 + 24)) (UInt8.ofNat (97 + j)))) = true := by decide +kernel
theorem rn_2_25 : (List.range 26).all (fun j => 25 == j || rnC rnP2 (rnB2 (UInt8.ofNat (97 + 25)) (UInt8.ofNat (97 + j)))) = true := by decide +kernel
theorem rn_2 {i j : Nat} (hi : i < 26) (hj : j < 26) (h : i ≠ j) : parseF (rnB2 (UInt8.ofNat (97 + i)) (UInt8.ofNat (97 + j))) = .ok [rnP2] := by
 have key : ∀ b : Nat → Bool, ((List.range 26).all fun j => i == j || b j) = true → b j = true := fun b h1 => by
  have h2 := List.all_eq_true.1 h1 j (List.mem_range.2 hj)
  rw [Bool.or_eq_true, beq_iff_eq] at h2
  exact h2.resolve_left h
 have hc : i = 0 ∨ i = 1 ∨ i = 2 ∨ i = 3 ∨ i = 4 ∨ i = 5 ∨ i = 6 ∨ i = 7 ∨ i = 8 ∨ i = 9 ∨ i = 10 ∨ i = 11 ∨ i = 12 ∨ i = 13 ∨ i = 14 ∨ i = 15 ∨ i = 16 ∨ i = 17 ∨ i = 18 ∨ i = 19 ∨ i = 20 ∨ i = 21 ∨ i = 22 ∨ i = 23 ∨ i = 24 ∨ i = 25 := by omega
 rcases hc with rfl | rfl | rfl | rfl | rfl | rfl | rfl | rfl | rfl | rfl | rfl | rfl | rfl | rfl | rfl | rfl | rfl | rfl | rfl | rfl | rfl | rfl | rfl | rfl | rfl | rfl
 ·
  exact rnC_ok (key (fun j => rnC rnP2 (rnB2 (UInt8.ofNat (97 + 0)) (UInt8.ofNat (97 + j)))) rn_2_0)
 ·
  exact rnC_ok (key (fun j => rnC rnP2 (rnB2 (UInt8.ofNat (97 + 1)) (UInt8.ofNat (97 + j)))) rn_2_1)
 ·
  exact rnC_ok (key (fun j => rnC rnP2 (rnB2 (UInt8.ofNat (97 + 2)) (UInt8.ofNat (97 + j)))) rn_2_2)
 ·
  exact rnC_ok (key (fun j => rnC rnP2 (rnB2 (UInt8.ofNat (97 + 3)) (UInt8.ofNat (97 + j)))) rn_2_3)
 ·
  exact rnC_ok (key (fun j => rnC rnP2 (rnB2 (UInt8.ofNat (97 + 4)) (UInt8.ofNat (97 + j)))) rn_2_4)
 ·
  exact rnC_ok (key (fun j => rnC rnP2 (rnB2 (UInt8.ofNat (97 + 5)) (UInt8.ofNat (97 + j)))) rn_2_5)
 ·
  exact rnC_ok (key (fun j => rnC rnP2 (rnB2 (UInt8.ofNat (97 + 6)) (UInt8.ofNat (97 + j)))) rn_2_6)
 ·
  exact rnC_ok (key (fun j => rnC rnP2 (rnB2 (UInt8.ofNat (97 + 7)) (UInt8.ofNat (97 + j)))) rn_2_7)
 ·
  exact rnC_ok (key (fun j => rnC rnP2 (rnB2 (UInt8.ofNat (97 + 8)) (UInt8.ofNat (97 + j)))) rn_2_8)
 ·
  exact rnC_ok (key (fun j => rnC rnP2 (rnB2 (UInt8.ofNat (97 + 9)) (UInt8.ofNat (97 + j)))) rn_2_9)
 ·
  exact rnC_ok (key (fun j => rnC rnP2 (rnB2 (UInt8.ofNat (97 + 10)) (UInt8.ofNat (97 + j)))) rn_2_10)
 ·
  exact rnC_ok (key (fun j => rnC rnP2 (rnB2 (UInt8.ofNat (97 + 11)) (UInt8.ofNat (97 + j)))) rn_2_11)
 ·
  exact rnC_ok (key (fun j => rnC rnP2 (rnB2 (UInt8.ofNat (97 + 12)) (UInt8.ofNat (97 + j)))) rn_2_12)
 ·
  exact rnC_ok (key (fun j => rnC rnP2 (rnB2 (UInt8.ofNat (97 + 13)) (UInt8.ofNat (97 + j)))) rn_2_13)
 ·
  exact rnC_ok (key (fun j => rnC rnP2 (rnB2 (UInt8.ofNat (97 + 14)) (UInt8.ofNat (97 + j)))) rn_2_14)
 ·
  exact rnC_ok (key (fun j => rnC rnP2 (rnB2 (UInt8.ofNat (97 + 15)) (UInt8.ofNat (97 + j)))) rn_2_15)
 ·
  exact rnC_ok (key (fun j => rnC rnP2 (rnB2 (UInt8.ofNat (97 + 16)) (UInt8.ofNat (97 + j)))) rn_2_16)
 ·
  exact rnC_ok (key (fun j => rnC rnP2 (rnB2 (UInt8.ofNat (97 + 17)) (UInt8.ofNat (97 + j)))) rn_2_17)
 ·
  exact rnC_ok (key (fun j => rnC rnP2 (rnB2 (UInt8.ofNat (97 + 18)) (UInt8.ofNat (97 + j)))) rn_2_18)
 ·
  exact rnC_ok (key (fun j => rnC rnP2 (rnB2 (UInt8.ofNat (97 + 19)) (UInt8.ofNat (97 + j)))) rn_2_19)
 ·
  exact rnC_ok (key (fun j => rnC rnP2 (rnB2 (UInt8.ofNat (97 + 20)) (UInt8.ofNat (97 + j)))) rn_2_20)
 ·
  exact rnC_ok (key (fun j => rnC rnP2 (rnB2 (UInt8.ofNat (97 + 21)) (UInt8.ofNat (97 + j)))) rn_2_21)
 ·
  exact rnC_ok (key (fun j => rnC rnP2 (rnB2 (UInt8.ofNat (97 + 22)) (UInt8.ofNat (97 + j)))) rn_2_22)
 ·
  exact rnC_ok (key (fun j => rnC rnP2 (rnB2 (UInt8.ofNat (97 + 23)) (UInt8.ofNat (97 + j)))) rn_2_23)
 ·
  exact rnC_ok (key (fun j => rnC rnP2 (rnB2 (UInt8.ofNat (97 + 24)) (UInt8.ofNat (97 + j)))) rn_2_24)
 ·
  exact rnC_ok (key (fun j => rnC rnP2 (rnB2 (UInt8.ofNat (97 + 25)) (UInt8.ofNat (97 + j)))) rn_2_25)
theorem rn_p2 : parseF rnA2 = .ok [rnP2] ∧ RlSz rnP2 ∧ RlI rnP2 := by
 have h := rn_a2.2
 rw [Bool.and_eq_true] at h
 exact ⟨rnC_ok rn_a2.1, szB_ok h.1, riB_ok h.2⟩
end Go.Proofs.Ytblkgjdhaibhgaa
namespace Go.Proofs.Ytblkgjdhaibhgaa
open Go.RowKit
def rnA (k : Nat) : Bs := if k = 0 then rnA0 else if k = 1 then rnA1 else rnA2
def rnB (k : Nat) (x y : UInt8) : Bs := if k = 0 then rnB0 x y else if k = 1 then rnB1 x y else rnB2 x y
def rnP (k : Nat) : Rl := if k = 0 then rnP0 else if k = 1 then rnP1 else rnP2
theorem rn_all {k i j : Nat} (hk : k < 3) (hi : i < 26) (hj : j < 26) (h : i ≠ j) : parseF (rnA k) = .ok [rnP k] ∧ parseF (rnB k (UInt8.ofNat (97 + i)) (UInt8.ofNat (97 + j))) = .ok [rnP k] ∧ RlSz (rnP k) ∧ RlI (rnP k) := by
 have hc : k = 0 ∨ k = 1 ∨ k = 2 := by omega
 rcases hc with rfl | rfl | rfl
 ·
  exact ⟨rn_p0.1, rn_0 hi hj h, rn_p0.2⟩
 ·
  exact ⟨rn_p1.1, rn_1 hi hj h, rn_p1.2⟩
 ·
  exact ⟨rn_p2.1, rn_2 hi hj h, rn_p2.2⟩
def rnCs (x y : UInt8) : Array Value := #[.string (kstr rnA0), .string (kstr (rnB0 x y)), .string (kstr rnA1), .string (kstr (rnB1 x y)), .string (kstr rnA2), .string (kstr (rnB2 x y))]
theorem rnCs_get {k : Nat} (hk : k < 3) (x y : UInt8) : (rnCs x y)[k * 2]? = some (.string (kstr (rnA k))) ∧ (rnCs x y)[k * 2 + 1]? = some (.string (kstr (rnB k x y))) := by
 have hc : k = 0 ∨ k = 1 ∨ k = 2 := by omega
 rcases hc with rfl | rfl | rfl <;> exact ⟨rfl, rfl⟩
def rnW (w : World) (qx qy : ByteArray) : World := w.alloc (.cells #[.string ({ data := #[114, 117, 108, 101, 32, 114, 58, 32, 40, 115, 117, 98, 32, 63, 97, 32, 63, 98, 41, 32, 61, 62, 32, 40, 97, 100, 100, 32, 63, 97, 32, 40, 110, 101, 103, 32, 63, 98, 41, 41, 59] } : ByteArray), .string ((((((((({ data := #[114, 117, 108, 101, 32, 114, 58, 40, 115, 117, 98, 32, 63] } : ByteArray) ++ qx) ++ ({ data := #[32, 63] } : ByteArray)) ++ qy) ++ ({ data := #[41, 61, 62, 32, 40, 97, 100, 100, 32, 63] } : ByteArray)) ++ qx) ++ ({ data := #[40, 110, 101, 103, 32, 63] } : ByteArray)) ++ qy) ++ ({ data := #[41, 41, 59] } : ByteArray)), .string ({ data := #[114, 117, 108, 101, 32, 114, 58, 32, 40, 108, 111, 97, 100, 46, 107, 32, 40, 115, 116, 111, 114, 101, 46, 108, 32, 63, 97, 32, 63, 98, 32, 63, 99, 41, 32, 63, 98, 41, 32, 61, 62, 32, 40, 108, 111, 97, 100, 46, 107, 32, 63, 97, 32, 63, 98, 41, 32, 105, 102, 32, 117, 110, 108, 105, 107, 101, 32, 107, 32, 108, 59] } : ByteArray), .string ((((((((((({ data := #[114, 117, 108, 101, 32, 114, 32, 58, 32, 40, 108, 111, 97, 100, 46] } : ByteArray) ++ qx) ++ ({ data := #[32, 40, 115, 116, 111, 114, 101, 46] } : ByteArray)) ++ qy) ++ ({ data := #[32, 63, 97, 32, 63, 98, 32, 63, 99, 41, 32, 63, 98, 41, 32, 61, 62, 32, 40, 108, 111, 97, 100, 46] } : ByteArray)) ++ qx) ++ ({ data := #[32, 63, 97, 32, 63, 98, 41, 32, 47, 47, 32, 59, 10, 32, 105, 102, 32, 117, 110, 108, 105, 107, 101, 32] } : ByteArray)) ++ qx) ++ ({ data := #[32] } : ByteArray)) ++ qy) ++ ({ data := #[32, 59] } : ByteArray)), .string ({ data := #[114, 117, 108, 101, 32, 114, 58, 32, 40, 109, 117, 108, 32, 63, 97, 32, 36, 107, 41, 32, 61, 62, 32, 40, 109, 117, 108, 32, 36, 107, 32, 63, 97, 41, 59] } : ByteArray), .string (((((((((({ data := #[9, 114, 117, 108, 101, 32, 114, 58, 10, 40, 109, 117, 108, 32, 63] } : ByteArray) ++ qx) ++ ({ data := #[32, 36] } : ByteArray)) ++ qy) ++ ({ data := #[41, 32, 61, 62, 32, 40, 109, 117, 108, 32, 36] } : ByteArray)) ++ qy) ++ ({ data := #[32, 63] } : ByteArray)) ++ qx) ++ ({ data := #[41, 59, 47, 47, 32] } : ByteArray)) ++ qx)] 49)
theorem rnW_eq (w : World) (qx qy : ByteArray) : w.alloc (.cells #[.string ({ data := #[114, 117, 108, 101, 32, 114, 58, 32, 40, 115, 117, 98, 32, 63, 97, 32, 63, 98, 41, 32, 61, 62, 32, 40, 97, 100, 100, 32, 63, 97, 32, 40, 110, 101, 103, 32, 63, 98, 41, 41, 59] } : ByteArray), .string ((((((((({ data := #[114, 117, 108, 101, 32, 114, 58, 40, 115, 117, 98, 32, 63] } : ByteArray) ++ qx) ++ ({ data := #[32, 63] } : ByteArray)) ++ qy) ++ ({ data := #[41, 61, 62, 32, 40, 97, 100, 100, 32, 63] } : ByteArray)) ++ qx) ++ ({ data := #[40, 110, 101, 103, 32, 63] } : ByteArray)) ++ qy) ++ ({ data := #[41, 41, 59] } : ByteArray)), .string ({ data := #[114, 117, 108, 101, 32, 114, 58, 32, 40, 108, 111, 97, 100, 46, 107, 32, 40, 115, 116, 111, 114, 101, 46, 108, 32, 63, 97, 32, 63, 98, 32, 63, 99, 41, 32, 63, 98, 41, 32, 61, 62, 32, 40, 108, 111, 97, 100, 46, 107, 32, 63, 97, 32, 63, 98, 41, 32, 105, 102, 32, 117, 110, 108, 105, 107, 101, 32, 107, 32, 108, 59] } : ByteArray), .string ((((((((((({ data := #[114, 117, 108, 101, 32, 114, 32, 58, 32, 40, 108, 111, 97, 100, 46] } : ByteArray) ++ qx) ++ ({ data := #[32, 40, 115, 116, 111, 114, 101, 46] } : ByteArray)) ++ qy) ++ ({ data := #[32, 63, 97, 32, 63, 98, 32, 63, 99, 41, 32, 63, 98, 41, 32, 61, 62, 32, 40, 108, 111, 97, 100, 46] } : ByteArray)) ++ qx) ++ ({ data := #[32, 63, 97, 32, 63, 98, 41, 32, 47, 47, 32, 59, 10, 32, 105, 102, 32, 117, 110, 108, 105, 107, 101, 32] } : ByteArray)) ++ qx) ++ ({ data := #[32] } : ByteArray)) ++ qy) ++ ({ data := #[32, 59] } : ByteArray)), .string ({ data := #[114, 117, 108, 101, 32, 114, 58, 32, 40, 109, 117, 108, 32, 63, 97, 32, 36, 107, 41, 32, 61, 62, 32, 40, 109, 117, 108, 32, 36, 107, 32, 63, 97, 41, 59] } : ByteArray), .string (((((((((({ data := #[9, 114, 117, 108, 101, 32, 114, 58, 10, 40, 109, 117, 108, 32, 63] } : ByteArray) ++ qx) ++ ({ data := #[32, 36] } : ByteArray)) ++ qy) ++ ({ data := #[41, 32, 61, 62, 32, 40, 109, 117, 108, 32, 36] } : ByteArray)) ++ qy) ++ ({ data := #[32, 63] } : ByteArray)) ++ qx) ++ ({ data := #[41, 59, 47, 47, 32] } : ByteArray)) ++ qx)] 49) = rnW w qx qy := rfl
theorem rn_s0 (x y : UInt8) : ((((((((({ data := #[114, 117, 108, 101, 32, 114, 58, 40, 115, 117, 98, 32, 63] } : ByteArray) ++ kstr [x]) ++ ({ data := #[32, 63] } : ByteArray)) ++ kstr [y]) ++ ({ data := #[41, 61, 62, 32, 40, 97, 100, 100, 32, 63] } : ByteArray)) ++ kstr [x]) ++ ({ data := #[40, 110, 101, 103, 32, 63] } : ByteArray)) ++ kstr [y]) ++ ({ data := #[41, 41, 59] } : ByteArray)) = kstr (rnB0 x y) := by
 rw [show ({ data := #[114, 117, 108, 101, 32, 114, 58, 40, 115, 117, 98, 32, 63] } : ByteArray) = kstr [114, 117, 108, 101, 32, 114, 58, 40, 115, 117, 98, 32, 63] from rfl, show ({ data := #[32, 63] } : ByteArray) = kstr [32, 63] from rfl, show ({ data := #[41, 61, 62, 32, 40, 97, 100, 100, 32, 63] } : ByteArray) = kstr [41, 61, 62, 32, 40, 97, 100, 100, 32, 63] from rfl, show ({ data := #[40, 110, 101, 103, 32, 63] } : ByteArray) = kstr [40, 110, 101, 103, 32, 63] from rfl, show ({ data := #[41, 41, 59] } : ByteArray) = kstr [41, 41, 59] from rfl]
 simp only [kstr_app]
 rfl
theorem rn_s1 (x y : UInt8) : ((((((((((({ data := #[114, 117, 108, 101, 32, 114, 32, 58, 32, 40, 108, 111, 97, 100, 46] } : ByteArray) ++ kstr [x]) ++ ({ data := #[32, 40, 115, 116, 111, 114, 101, 46] } : ByteArray)) ++ kstr [y]) ++ ({ data := #[32, 63, 97, 32, 63, 98, 32, 63, 99, 41, 32, 63, 98, 41, 32, 61, 62, 32, 40, 108, 111, 97, 100, 46] } : ByteArray)) ++ kstr [x]) ++ ({ data := #[32, 63, 97, 32, 63, 98, 41, 32, 47, 47, 32, 59, 10, 32, 105, 102, 32, 117, 110, 108, 105, 107, 101, 32] } : ByteArray)) ++ kstr [x]) ++ ({ data := #[32] } : ByteArray)) ++ kstr [y]) ++ ({ data := #[32, 59] } : ByteArray)) = kstr (rnB1 x y) := by
 rw [show ({ data := #[114, 117, 108, 101, 32, 114, 32, 58, 32, 40, 108, 111, 97, 100, 46] } : ByteArray) = kstr [114, 117, 108, 101, 32, 114, 32, 58, 32, 40, 108, 111, 97, 100, 46] from rfl, show ({ data := #[32, 40, 115, 116, 111, 114, 101, 46] } : ByteArray) = kstr [32, 40, 115, 116, 111, 114, 101, 46] from rfl, show ({ data := #[32, 63, 97, 32, 63, 98, 32, 63, 99, 41, 32, 63, 98, 41, 32, 61, 62, 32, 40, 108, 111, 97, 100, 46] } : ByteArray) = kstr [32, 63, 97, 32, 63, 98, 32, 63, 99, 41, 32, 63, 98, 41, 32, 61, 62, 32, 40, 108, 111, 97, 100, 46] from rfl, show ({ data := #[32, 63, 97, 32, 63, 98, 41, 32, 47, 47, 32, 59, 10, 32, 105, 102, 32, 117, 110, 108, 105, 107, 101, 32] } : ByteArray) = kstr [32, 63, 97, 32, 63, 98, 41, 32, 47, 47, 32, 59, 10, 32, 105, 102, 32, 117, 110, 108, 105, 107, 101, 32] from rfl, show ({ data := #[32] } : ByteArray) = kstr [32] from rfl, show ({ data := #[32, 59] } : ByteArray) = kstr [32, 59] from rfl]
 simp only [kstr_app]
 rfl
theorem rn_s2 (x y : UInt8) : (((((((((({ data := #[9, 114, 117, 108, 101, 32, 114, 58, 10, 40, 109, 117, 108, 32, 63] } : ByteArray) ++ kstr [x]) ++ ({ data := #[32, 36] } : ByteArray)) ++ kstr [y]) ++ ({ data := #[41, 32, 61, 62, 32, 40, 109, 117, 108, 32, 36] } : ByteArray)) ++ kstr [y]) ++ ({ data := #[32, 63] } : ByteArray)) ++ kstr [x]) ++ ({ data := #[41, 59, 47, 47, 32] } : ByteArray)) ++ kstr [x]) = kstr (rnB2 x y) := by
 rw [show ({ data := #[9, 114, 117, 108, 101, 32, 114, 58, 10, 40, 109, 117, 108, 32, 63] } : ByteArray) = kstr [9, 114, 117, 108, 101, 32, 114, 58, 10, 40, 109, 117, 108, 32, 63] from rfl, show ({ data := #[32, 36] } : ByteArray) = kstr [32, 36] from rfl, show ({ data := #[41, 32, 61, 62, 32, 40, 109, 117, 108, 32, 36] } : ByteArray) = kstr [41, 32, 61, 62, 32, 40, 109, 117, 108, 32, 36] from rfl, show ({ data := #[32, 63] } : ByteArray) = kstr [32, 63] from rfl, show ({ data := #[41, 59, 47, 47, 32] } : ByteArray) = kstr [41, 59, 47, 47, 32] from rfl]
 simp only [kstr_app]
 rfl
theorem rnW_is (w : World) (x y : UInt8) : Blk (rnW w (kstr [x]) (kstr [y])) w.heap.size 49 (rnCs x y) ∧ Upd Non w (rnW w (kstr [x]) (kstr [y])) := by
 unfold rnW
 rw [rn_s0, rn_s1, rn_s2]
 exact ⟨Blk.new _ _ _, Upd.refl.alloc _⟩
theorem letter_c (n : Int) (k : Nat) (h : n = k) : IntKind.u8.wrap (97 + n) = ((UInt8.ofNat (97 + k)).toNat : Int) := by
 subst h
 rw [IntKind.wrap_u8]
 have : (UInt8.ofNat (97 + k)).toNat = (97 + k) % 256 := rfl
 omega
theorem pick_ne {b : Int} : wrap64 (b + 1) % 26 ≠ b % 26 := by
 unfold wrap64
 omega
set_option maxRecDepth 100000 in
set_option maxHeartbeats 4000000 in
theorem RuRenaming_c (w : World) (a b which : Int) : Calls Try.prog 6 #[.int .i64 a, .int .i64 b, .int .i64 which] w fun e w' => e = .returned (.bool true) ∧ Upd Non w w' := by
 obtain ⟨i, hi⟩ : ∃ k : Nat, a % 26 = (k : Int) := Int.eq_ofNat_of_zero_le (by omega)
 obtain ⟨j, hj⟩ : ∃ k : Nat, b % 26 = (k : Int) := Int.eq_ofNat_of_zero_le (by omega)
 obtain ⟨j2, hj2⟩ : ∃ k : Nat, wrap64 (b + 1) % 26 = (k : Int) := Int.eq_ofNat_of_zero_le (by omega)
 obtain ⟨k, hk⟩ : ∃ k : Nat, which % 3 = (k : Int) := Int.eq_ofNat_of_zero_le (by omega)
 have CE := Lib.hid (fun W => RuExamples_c W)
 have C1 := Lib.hid (fun W => pick_c a 26 W (by omega) (by omega))
 have C2 := Lib.hid (fun W => pick_c b 26 W (by omega) (by omega))
 have C3 := Lib.hid (fun W => pick_c (wrap64 (b + 1)) 26 W (by omega) (by omega))
 have C4 := Lib.hid (fun W => pick_c which 3 W (by omega) (by omega))
 rw [hi] at C1
 rw [hj] at C2
 rw [hj2] at C3
 rw [hk] at C4
 have hne : j2 ≠ j := fun e => pick_ne (b := b) (by rw [hj2, hj, e])
 have h26 : i < 26 ∧ j < 26 ∧ j2 < 26 ∧ k < 3 := by omega
 have v1 := letter_c i i rfl
 have v2 := letter_c j j rfl
 have v3 := letter_c j2 j2 rfl
 have w1' : IntKind.i64.wrap (97 + (i : Int)) = 97 + (i : Int) := i64w_of (by unfold I64; omega)
 have w2' : IntKind.i64.wrap (97 + (j : Int)) = 97 + (j : Int) := i64w_of (by unfold I64; omega)
 have w3' : wrap64 (97 + (j2 : Int)) = 97 + (j2 : Int) := wrap64_of (by unfold I64; omega)
 have HALL : Hid (∀ jj, jj < 26 → i ≠ jj → parseF (rnA k) = .ok [rnP k] ∧ parseF (rnB k (UInt8.ofNat (97 + i)) (UInt8.ofNat (97 + jj))) = .ok [rnP k] ∧ RlSz (rnP k) ∧ RlI (rnP k)) := fun jj h1 h2 => rn_all h26.2.2.2 h26.1 h1 h2
 have HXY : Hid (∀ jj, jj < 26 → (UInt8.ofNat (97 + i) = UInt8.ofNat (97 + jj) ↔ i = jj)) := fun jj h => by
  constructor
  ·
   intro e
   have h1 : (UInt8.ofNat (97 + i)).toNat = (97 + i) % 256 := rfl
   have h2 : (UInt8.ofNat (97 + jj)).toNat = (97 + jj) % 256 := rfl
   rw [e, h2] at h1
   omega
  ·
   rintro rfl; rfl
 obtain ⟨x, Hx⟩ := nm (UInt8.ofNat (97 + i))
 obtain ⟨y, Hy⟩ := nm (UInt8.ofNat (97 + j))
 obtain ⟨y2, Hy2⟩ := nm (UInt8.ofNat (97 + j2))
 rw [Hx.out] at v1 HALL HXY
 rw [Hy.out] at v2
 rw [Hy2.out] at v3
 clear hi hj hj2 hk
 obtain ⟨wD, HwD⟩ := nm w.drew
 have uD : Upd Non w wD := by rw [← HwD.out]; exact Upd.refl.drew
 have HUD := Lib.hid uD
 obtain ⟨qx, Hqx⟩ := nm (kstr [x])
 obtain ⟨qy, Hqy⟩ := nm (kstr [y])
 go_enter Try.func6, Try.ntmps6
 go_upto_region 1 with fail
 go_cut [7, 8] (fun s1 s2 wx => s1 = .string qx ∧ s2 = .string qy ∧ Upd Non w wx)
 case first =>
  refine wp_region_held_drew (S := fun _ => True) (by kernel_rfl) trivial (fun hHeld => ?_)
  rw [HwD.out]
  refine wpT 0 ?_
  try simp only [put_y]
  try simp only [Act.put]
  try simp only [put_z]
  refine wpAnyH_takeC (i := 1) (v := ?v1) rfl (by kernel_rfl) (by kernel_rfl) (by kernel_rfl) (fun _ _ _ h => h) ⟨by rfl, ?f1, ?a1, ?r1, ?c1⟩ (by assumption) ?m1
  case r1 => intro w; go_simp; constructor <;> with_reducible rfl
  case c1 => intro W hSw; refine (C1.out W).mono ?_; rintro e w' ⟨rfl, rfl⟩; constructor <;> with_reducible rfl
  try simp only [put_y]
  try simp only [Act.put]
  try simp only [put_z]
  refine wpT 2 ?_
  try simp only [put_y]
  try simp only [Act.put]
  try simp only [put_z]
  refine wpT 3 ?_
  try simp only [put_y]
  try simp only [Act.put]
  try simp only [put_z]
  refine wpT 6 ?_
  try simp only [put_y]
  try simp only [Act.put]
  try simp only [put_z]
  refine wpAnyH_takeC (i := 7) (v := ?v2) rfl (by kernel_rfl) (by kernel_rfl) (by kernel_rfl) (fun _ _ _ h => h) ⟨by rfl, ?f2, ?a2, ?r2, ?c2⟩ (by assumption) ?m2
  case r2 => intro w; go_simp; constructor <;> with_reducible rfl
  case c2 => intro W hSw; refine (C2.out W).mono ?_; rintro e w' ⟨rfl, rfl⟩; constructor <;> with_reducible rfl
  try simp only [put_y]
  try simp only [Act.put]
  try simp only [put_z]
  refine wpT 8 ?_
  try simp only [put_y]
  try simp only [Act.put]
  try simp only [put_z]
  refine wpT 9 ?_
  try simp only [put_y]
  try simp only [Act.put]
  try simp only [put_z]
  refine wpAnyH_ready (rs := [4, 10]) (by kernel_rfl) (by simp) ?_
  refine AllReadyH.cons rfl (fun K hK => ?_) (AllReadyH.cons rfl (fun K hK => ?_) AllReadyH.nil)
  ·
   obtain ⟨WW, rfl⟩ : ∃ v : World, v = wD := ⟨_, rfl⟩
   go_simp
   have hA : U8Blk (WW.alloc (.cells #[.int .u8 (x.toNat : Nat)] 5)) WW.heap.size [x] := Blk.new _ _ _
   have UA : Upd Non WW (WW.alloc (.cells #[.int .u8 (x.toNat : Nat)] 5)) := Upd.refl.alloc _
   obtain ⟨WA, HWA⟩ := nm (WW.alloc (.cells #[.int .u8 (x.toNat : Nat)] 5))
   rw [HWA.out] at hA UA ⊢
   refine hK.out _ _ ?_ (fun hHeld => ?_)
   ·
    exact trivial
   clear hK K
   try simp only [put_y]
   try simp only [Act.put]
   try simp only [put_z]
   refine wpAnyH_ready (rs := [5, 10]) (by kernel_rfl) (by simp) ?_
   refine AllReadyH.cons rfl (fun K hK => ?_) (AllReadyH.cons rfl (fun K hK => ?_) AllReadyH.nil)
   ·
    skip
    have cx := run_kstr (c := 1) (n := 1) hA rfl
    rw [Hqx.out] at cx
    go_simp
    refine hK.out _ _ ?_ (fun hHeld => ?_)
    ·
     exact trivial
    clear hK K
    try simp only [put_y]
    try simp only [Act.put]
    try simp only [put_z]
    refine wpT 12 ?_
    try simp only [put_y]
    try simp only [Act.put]
    try simp only [put_z]
    clear cx
    refine wpAnyH_ready (rs := [10]) (by kernel_rfl) (by simp) ?_
    refine AllReadyH.cons rfl (fun K hK => ?_) AllReadyH.nil
    obtain ⟨WW, rfl⟩ : ∃ v : World, v = WA := ⟨_, rfl⟩
    go_simp
    have hB : U8Blk (WW.alloc (.cells #[.int .u8 (y.toNat : Nat)] 5)) WW.heap.size [y] := Blk.new _ _ _
    have UB : Upd Non WW (WW.alloc (.cells #[.int .u8 (y.toNat : Nat)] 5)) := Upd.refl.alloc _
    obtain ⟨WB, HWB⟩ := nm (WW.alloc (.cells #[.int .u8 (y.toNat : Nat)] 5))
    rw [HWB.out] at hB UB ⊢
    refine hK.out _ _ ?_ (fun hHeld => ?_)
    ·
     exact trivial
    clear hK K
    try simp only [put_y]
    try simp only [Act.put]
    try simp only [put_z]
    have UU := (HUD.out.then_non UA).then_non UB
    refine wpAnyH_ready (rs := [11]) (by kernel_rfl) (by simp) ?_
    refine AllReadyH.cons rfl (fun K hK => ?_) AllReadyH.nil
    have cy := run_kstr (c := 1) (n := 1) hB rfl
    rw [Hqy.out] at cy
    go_simp
    refine hK.out _ _ ?_ (fun hHeld => ?_)
    ·
     exact trivial
    clear hK K
    try simp only [put_y]
    try simp only [Act.put]
    try simp only [put_z]
    clear cy
    refine wpT 13 ?_
    try simp only [put_y]
    try simp only [Act.put]
    try simp only [put_z]
    refine wpAnyH_done (by kernel_rfl) ?_ _
    go_wp2_with fail
    go_meet
    case rel => exact ⟨rfl, rfl, UU⟩
   ·
    have h0 := hA
    obtain ⟨WW, rfl⟩ : ∃ v : World, v = WA := ⟨_, rfl⟩
    go_simp
    have hB : U8Blk (WW.alloc (.cells #[.int .u8 (y.toNat : Nat)] 5)) WW.heap.size [y] := Blk.new _ _ _
    have UB : Upd Non WW (WW.alloc (.cells #[.int .u8 (y.toNat : Nat)] 5)) := Upd.refl.alloc _
    obtain ⟨WB, HWB⟩ := nm (WW.alloc (.cells #[.int .u8 (y.toNat : Nat)] 5))
    rw [HWB.out] at hB UB ⊢
    refine hK.out _ _ ?_ (fun hHeld => ?_)
    ·
     exact trivial
    clear hK K
    try simp only [put_y]
    try simp only [Act.put]
    try simp only [put_z]
    have UU := (HUD.out.then_non UA).then_non UB
    have hA := h0.upd UB (fun f => f)
    refine wpAnyH_ready (rs := [5, 11]) (by kernel_rfl) (by simp) ?_
    refine AllReadyH.cons rfl (fun K hK => ?_) (AllReadyH.cons rfl (fun K hK => ?_) AllReadyH.nil)
    ·
     skip
     have cx := run_kstr (c := 1) (n := 1) hA rfl
     rw [Hqx.out] at cx
     go_simp
     refine hK.out _ _ ?_ (fun hHeld => ?_)
     ·
      exact trivial
     clear hK K
     try simp only [put_y]
     try simp only [Act.put]
     try simp only [put_z]
     refine wpT 12 ?_
     try simp only [put_y]
     try simp only [Act.put]
     try simp only [put_z]
     clear cx
     refine wpAnyH_ready (rs := [11]) (by kernel_rfl) (by simp) ?_
     refine AllReadyH.cons rfl (fun K hK => ?_) AllReadyH.nil
     have cy := run_kstr (c := 1) (n := 1) hB rfl
     rw [Hqy.out] at cy
     go_simp
     refine hK.out _ _ ?_ (fun hHeld => ?_)
     ·
      exact trivial
     clear hK K
     try simp only [put_y]
     try simp only [Act.put]
     try simp only [put_z]
     clear cy
     refine wpT 13 ?_
     try simp only [put_y]
     try simp only [Act.put]
     try simp only [put_z]
     refine wpAnyH_done (by kernel_rfl) ?_ _
     go_wp2_with fail
     go_meet
     case rel => exact ⟨rfl, rfl, UU⟩
    ·
     skip
     have cy := run_kstr (c := 1) (n := 1) hB rfl
     rw [Hqy.out] at cy
     go_simp
     refine hK.out _ _ ?_ (fun hHeld => ?_)
     ·
      exact trivial
     clear hK K
     try simp only [put_y]
     try simp only [Act.put]
     try simp only [put_z]
     clear cy
     refine wpAnyH_ready (rs := [5]) (by kernel_rfl) (by simp) ?_
     refine AllReadyH.cons rfl (fun K hK => ?_) AllReadyH.nil
     have cx := run_kstr (c := 1) (n := 1) hA rfl
     rw [Hqx.out] at cx
     go_simp
     refine hK.out _ _ ?_ (fun hHeld => ?_)
     ·
      exact trivial
     clear hK K
     try simp only [put_y]
     try simp only [Act.put]
     try simp only [put_z]
     refine wpT 12 ?_
     try simp only [put_y]
     try simp only [Act.put]
     try simp only [put_z]
     clear cx
     refine wpT 13 ?_
     try simp only [put_y]
     try simp only [Act.put]
     try simp only [put_z]
     refine wpAnyH_done (by kernel_rfl) ?_ _
     go_wp2_with fail
     go_meet
     case rel => exact ⟨rfl, rfl, UU⟩
  ·
   obtain ⟨WW, rfl⟩ : ∃ v : World, v = wD := ⟨_, rfl⟩
   go_simp
   have hB : U8Blk (WW.alloc (.cells #[.int .u8 (y.toNat : Nat)] 5)) WW.heap.size [y] := Blk.new _ _ _
   have UB : Upd Non WW (WW.alloc (.cells #[.int .u8 (y.toNat : Nat)] 5)) := Upd.refl.alloc _
   obtain ⟨WB, HWB⟩ := nm (WW.alloc (.cells #[.int .u8 (y.toNat : Nat)] 5))
   rw [HWB.out] at hB UB ⊢
   refine hK.out _ _ ?_ (fun hHeld => ?_)
   ·
    exact trivial
   clear hK K
   try simp only [put_y]
   try simp only [Act.put]
   try simp only [put_z]
   refine wpAnyH_ready (rs := [4, 11]) (by kernel_rfl) (by simp) ?_
   refine AllReadyH.cons rfl (fun K hK => ?_) (AllReadyH.cons rfl (fun K hK => ?_) AllReadyH.nil)
   ·
    have h0 := hB
    obtain ⟨WW, rfl⟩ : ∃ v : World, v = WB := ⟨_, rfl⟩
    go_simp
    have hA : U8Blk (WW.alloc (.cells #[.int .u8 (x.toNat : Nat)] 5)) WW.heap.size [x] := Blk.new _ _ _
    have UA : Upd Non WW (WW.alloc (.cells #[.int .u8 (x.toNat : Nat)] 5)) := Upd.refl.alloc _
    obtain ⟨WA, HWA⟩ := nm (WW.alloc (.cells #[.int .u8 (x.toNat : Nat)] 5))
    rw [HWA.out] at hA UA ⊢
    refine hK.out _ _ ?_ (fun hHeld => ?_)
    ·
     exact trivial
    clear hK K
    try simp only [put_y]
    try simp only [Act.put]
    try simp only [put_z]
    have UU := (HUD.out.then_non UB).then_non UA
    have hB := h0.upd UA (fun f => f)
    refine wpAnyH_ready (rs := [5, 11]) (by kernel_rfl) (by simp) ?_
    refine AllReadyH.cons rfl (fun K hK => ?_) (AllReadyH.cons rfl (fun K hK => ?_) AllReadyH.nil)
    ·
     skip
     have cx := run_kstr (c := 1) (n := 1) hA rfl
     rw [Hqx.out] at cx
     go_simp
     refine hK.out _ _ ?_ (fun hHeld => ?_)
     ·
      exact trivial
     clear hK K
     try simp only [put_y]
     try simp only [Act.put]
     try simp only [put_z]
     refine wpT 12 ?_
     try simp only [put_y]
     try simp only [Act.put]
     try simp only [put_z]
     clear cx
     refine wpAnyH_ready (rs := [11]) (by kernel_rfl) (by simp) ?_
     refine AllReadyH.cons rfl (fun K hK => ?_) AllReadyH.nil
     have cy := run_kstr (c := 1) (n := 1) hB rfl
     rw [Hqy.out] at cy
     go_simp
     refine hK.out _ _ ?_ (fun hHeld => ?_)
     ·
      exact trivial
     clear hK K
     try simp only [put_y]
     try simp only [Act.put]
     try simp only [put_z]
     clear cy
     refine wpT 13 ?_
     try simp only [put_y]
     try simp only [Act.put]
     try simp only [put_z]
     refine wpAnyH_done (by kernel_rfl) ?_ _
     go_wp2_with fail
     go_meet
     case rel => exact ⟨rfl, rfl, UU⟩
    ·
     skip
     have cy := run_kstr (c := 1) (n := 1) hB rfl
     rw [Hqy.out] at cy
     go_simp
     refine hK.out _ _ ?_ (fun hHeld => ?_)
     ·
      exact trivial
     clear hK K
     try simp only [put_y]
     try simp only [Act.put]
     try simp only [put_z]
     clear cy
     refine wpAnyH_ready (rs := [5]) (by kernel_rfl) (by simp) ?_
     refine AllReadyH.cons rfl (fun K hK => ?_) AllReadyH.nil
     have cx := run_kstr (c := 1) (n := 1) hA rfl
     rw [Hqx.out] at cx
     go_simp
     refine hK.out _ _ ?_ (fun hHeld => ?_)
     ·
      exact trivial
     clear hK K
     try simp only [put_y]
     try simp only [Act.put]
     try simp only [put_z]
     refine wpT 12 ?_
     try simp only [put_y]
     try simp only [Act.put]
     try simp only [put_z]
     clear cx
     refine wpT 13 ?_
     try simp only [put_y]
     try simp only [Act.put]
     try simp only [put_z]
     refine wpAnyH_done (by kernel_rfl) ?_ _
     go_wp2_with fail
     go_meet
     case rel => exact ⟨rfl, rfl, UU⟩
   ·
    skip
    have cy := run_kstr (c := 1) (n := 1) hB rfl
    rw [Hqy.out] at cy
    go_simp
    refine hK.out _ _ ?_ (fun hHeld => ?_)
    ·
     exact trivial
    clear hK K
    try simp only [put_y]
    try simp only [Act.put]
    try simp only [put_z]
    clear cy
    refine wpAnyH_ready (rs := [4]) (by kernel_rfl) (by simp) ?_
    refine AllReadyH.cons rfl (fun K hK => ?_) AllReadyH.nil
    obtain ⟨WW, rfl⟩ : ∃ v : World, v = WB := ⟨_, rfl⟩
    go_simp
    have hA : U8Blk (WW.alloc (.cells #[.int .u8 (x.toNat : Nat)] 5)) WW.heap.size [x] := Blk.new _ _ _
    have UA : Upd Non WW (WW.alloc (.cells #[.int .u8 (x.toNat : Nat)] 5)) := Upd.refl.alloc _
    obtain ⟨WA, HWA⟩ := nm (WW.alloc (.cells #[.int .u8 (x.toNat : Nat)] 5))
    rw [HWA.out] at hA UA ⊢
    refine hK.out _ _ ?_ (fun hHeld => ?_)
    ·
     exact trivial
    clear hK K
    try simp only [put_y]
    try simp only [Act.put]
    try simp only [put_z]
    have UU := (HUD.out.then_non UB).then_non UA
    refine wpAnyH_ready (rs := [5]) (by kernel_rfl) (by simp) ?_
    refine AllReadyH.cons rfl (fun K hK => ?_) AllReadyH.nil
    have cx := run_kstr (c := 1) (n := 1) hA rfl
    rw [Hqx.out] at cx
    go_simp
    refine hK.out _ _ ?_ (fun hHeld => ?_)
    ·
     exact trivial
    clear hK K
    try simp only [put_y]
    try simp only [Act.put]
    try simp only [put_z]
    refine wpT 12 ?_
    try simp only [put_y]
    try simp only [Act.put]
    try simp only [put_z]
    clear cx
    refine wpT 13 ?_
    try simp only [put_y]
    try simp only [Act.put]
    try simp only [put_z]
    refine wpAnyH_done (by kernel_rfl) ?_ _
    go_wp2_with fail
    go_meet
    case rel => exact ⟨rfl, rfl, UU⟩
 case rest =>
  obtain ⟨rfl, rfl, hwc⟩ := hcut
  have HWC := Lib.hid hwc
  clear hwc HwD HUD uD C1 C2
  have hsx : qx.size = 1 := by rw [← Hqx.out, kstr_size]; rfl
  have hsy : qy.size = 1 := by rw [← Hqy.out, kstr_size]; rfl
  have hxy : (qx.toList == qy.toList) = decide (i = j) := by
   rw [← Hqx.out, ← Hqy.out, str_beq]
   refine decide_eq_decide.2 ?_
   rw [List.cons.injEq, and_iff_left rfl, ← Hy.out]
   exact HXY.out j h26.2.1
  by_cases hij : i = j
  ·
   rw [decide_eq_true hij] at hxy
   have hij2 : i ≠ j2 := fun e => hne (by omega)
   have HALL2 := Lib.hid (HALL.out j2 h26.2.2.1 hij2)
   rw [Hy2.out] at HALL2
   have hU : U8Blk (wc.alloc (.cells #[.int .u8 (y2.toNat : Nat)] 5)) wc.heap.size [y2] := Blk.new _ _ _
   have uW : Upd Non wc (wc.alloc (.cells #[.int .u8 (y2.toNat : Nat)] 5)) := Upd.refl.alloc _
   have hc := run_kstr (c := 1) (n := 1) hU rfl
   obtain ⟨qyy, Hqyy⟩ := nm (kstr [y2])
   obtain ⟨yy, rfl⟩ : ∃ v, v = y2 := ⟨_, rfl⟩
   rw [Hqyy.out] at hc
   have hsy2 : qyy.size = 1 := by rw [← Hqyy.out, kstr_size]; rfl
   have C3c := Lib.hid (C3.out wc)
   clear C3
   go_upto_region 3 with fail
   go_wp2_with fail
   refine C3c.out.mono ?_
   rintro e w4 ⟨rfl, rfl⟩
   obtain ⟨w4, rfl⟩ : ∃ v : World, v = wc := ⟨_, rfl⟩
   obtain ⟨WC, HWCN⟩ := nm (w4.alloc (.cells #[.int .u8 (yy.toNat : Nat)] 5))
   rw [HWCN.out] at uW hc
   have e4 := HWCN.out
   have HWC := Lib.hid (HWC.out.then_non uW)
   clear C3c hU uW HWCN
   go_upto_region 5 with fail
   rw [rnW_eq]
   have hW := rnW_is WC x yy
   rw [Hqx.out, Hqyy.out] at hW
   obtain ⟨WR, HWR⟩ := nm (rnW WC qx qyy)
   rw [HWR.out] at hW ⊢
   obtain ⟨hbR, uR⟩ := hW
   obtain ⟨k0, k1⟩ := rnCs_get h26.2.2.2 x yy
   have c0 : WR.cell? ⟨WC.heap.size, k * 2, none⟩ = some (.string (kstr (rnA k))) := by rw [hbR.cell]; exact k0
   have c1 : WR.cell? ⟨WC.heap.size, k * 2 + 1, none⟩ = some (.string (kstr (rnB k x yy))) := by rw [hbR.cell]; exact k1
   obtain ⟨hp1, hp2, hz, hri⟩ := HALL2.out
   have CA := Lib.hid (fun W => rParse_all (kstr (rnA k)) W)
   have CB := Lib.hid (fun W => rParse_all (kstr (rnB k x yy)) W)
   rw [kx_kstr, hp1] at CA
   rw [kx_kstr, hp2] at CB
   obtain ⟨tA, HtA⟩ := nm (kstr (rnA k))
   obtain ⟨tB, HtB⟩ := nm (kstr (rnB k x yy))
   rw [HtA.out] at c0 CA
   rw [HtB.out] at c1 CB
   obtain ⟨r, Hr⟩ := nm (rnP k)
   rw [Hr.out] at CA CB hz hri
   have HRZ : Hid (∀ q ∈ [r], RlSz q) := fun q hq => by rw [List.mem_singleton] at hq; rw [hq]; exact hz
   have HRI : Hid (∀ q ∈ [r], RlI q) := fun q hq => by rw [List.mem_singleton] at hq; rw [hq]; exact hri
   have HZ := Lib.hid hz
   have HUR := Lib.hid (HWC.out.then_non uR)
   have hk3 := h26.2.2.2
   have C4R := Lib.hid (C4.out WR)
   clear hbR uR k0 k1 hp1 hp2 hz hri HALL HXY h26 hne
   go_wp2_with fail
   refine C4R.out.mono ?_
   rintro e w5 ⟨rfl, rfl⟩
   obtain ⟨w5, rfl⟩ : ∃ v : World, v = WR := ⟨_, rfl⟩
   obtain ⟨W6, HW6⟩ := nm (w5.alloc (.cells #[.string tA, .string tB] 49))
   have u6 : Upd Non w5 W6 := by rw [← HW6.out]; exact Upd.refl.alloc _
   have b6 : Blk W6 w5.heap.size 49 #[.string tA, .string tB] := by rw [← HW6.out]; exact Blk.new _ _ _
   have d0 := b6.cell 0
   have HB6 := Lib.hid b6
   have HU6 := Lib.hid (HUR.out.then_non u6)
   have CA6 := Lib.hid (CA.out W6)
   clear C4R u6 b6
   go_upto_region 6 with fail
   rw [HW6.out]
   clear c0 c1
   go_wp2_with fail
   refine CA6.out.mono ?_
   rintro e w7 ⟨u7, h⟩
   rcases h with ⟨er, h, _⟩ | ⟨Q, A1, l1, h, rfl, hv1, -⟩
   ·
    cases h
   injection h with h
   subst h
   have HB7 := Lib.hid (HB6.out.upd u7 (fun f => f))
   obtain ⟨W7, HW7⟩ := nm (w7.alloc (.cells #[.int .i64 0, .int .i64 0] 25))
   have v7 : Upd Non w7 W7 := by rw [← HW7.out]; exact Upd.refl.alloc _
   have b7 : Blk W7 w7.heap.size 25 #[.int .i64 0, .int .i64 0] := by rw [← HW7.out]; exact Blk.new _ _ _
   have HU7 := Lib.hid ((HU6.out.then_non u7).then_non v7)
   have HE7 := Lib.hid b7
   have HV1 := Lib.hid (hv1.upd v7 (fun _ _ _ f => f))
   have d1 := (HB7.out.upd v7 (fun f => f)).cell 1
   have CB7 := Lib.hid (CB.out W7)
   clear CA6 CA CB u7 v7 b7 hv1 d0
   go_upto_region 7 with fail
   rw [HW7.out]
   go_wp2_with fail
   refine CB7.out.mono ?_
   rintro e w8 ⟨u8, h⟩
   rcases h with ⟨er, h, _⟩ | ⟨Q, A2, l2, h, rfl, hv2, -⟩
   ·
    cases h
   injection h with h
   subst h
   obtain ⟨W8, HW8⟩ := nm (w8.alloc (.cells #[.int .i64 0, .int .i64 0] 25))
   have v8 : Upd Non w8 W8 := by rw [← HW8.out]; exact Upd.refl.alloc _
   have b8 : Blk W8 w8.heap.size 25 #[.int .i64 0, .int .i64 0] := by rw [← HW8.out]; exact Blk.new _ _ _
   have U8 := u8.then_non v8
   clear CB7
   go_upto_region 8 with fail
   rw [HW8.out]
   obtain ⟨wE, HwE⟩ := nm W8.drew
   have uE : Upd Non W8 wE := by rw [← HwE.out]; exact Upd.refl.drew
   have V1 := HV1.out.upd (U8.then_non uE) (fun _ _ _ f => f)
   have V2 := hv2.upd (v8.then_non uE) (fun _ _ _ f => f)
   have HE1 := Lib.hid (HE7.out.upd (U8.then_non uE) (fun f => f))
   have HE2 := Lib.hid (b8.upd uE (fun f => f))
   have HUE := Lib.hid ((HU7.out.then_non U8).then_non uE)
   obtain ⟨b1, o1, a1, rfl, -, -, hat1, hrk1⟩ := V1.at_ (i := 0) (by simp)
   obtain ⟨b2, o2, a2, rfl, -, -, hat2, hrk2⟩ := V2.at_ (i := 0) (by simp)
   rw [List.getElem_cons_zero, Nat.zero_mul, Nat.add_zero] at hat1 hat2
   rw [List.getElem_cons_zero] at hrk1 hrk2
   have HV1E := Lib.hid V1
   have HV2E := Lib.hid V2
   have HSS : Hid (∀ w', Upd Non wE w' → (w'.cell? ⟨b1, o1, none⟩ = some (.string r.name) ∧ w'.cell? ⟨b1, o1 + 1, none⟩ = some (.int .i64 r.l.v) ∧ w'.cell? ⟨b1, o1 + 2, none⟩ = some (.int .i64 r.l.op) ∧ w'.cell? ⟨b1, o1 + 3, none⟩ = some (.int .i64 r.l.imm) ∧ w'.cell? ⟨b1, o1 + 4, none⟩ = some (.int .i64 r.l.iv) ∧ w'.cell? ⟨b1, o1 + 5, none⟩ = some (.slice a1.la r.l.kids.length a1.lc) ∧ w'.cell? ⟨b1, o1 + 6, none⟩ = some (.int .i64 r.r.v) ∧ w'.cell? ⟨b1, o1 + 7, none⟩ = some (.int .i64 r.r.op) ∧ w'.cell? ⟨b1, o1 + 8, none⟩ = some (.int .i64 r.r.imm) ∧ w'.cell? ⟨b1, o1 + 9, none⟩ = some (.int .i64 r.r.iv) ∧ w'.cell? ⟨b1, o1 + 10, none⟩ = some (.slice a1.ra r.r.kids.length a1.rc) ∧ w'.cell? ⟨b1, o1 + 11, none⟩ = some (.slice a1.ca r.conds.length a1.cc) ∧ w'.cell? ⟨b1, o1 + 12, none⟩ = some (.int .i64 r.vars) ∧ w'.cell? ⟨b1, o1 + 13, none⟩ = some (.int .i64 r.imms)) ∧ (w'.cell? ⟨b2, o2, none⟩ = some (.string r.name) ∧ w'.cell? ⟨b2, o2 + 1, none⟩ = some (.int .i64 r.l.v) ∧ w'.cell? ⟨b2, o2 + 2, none⟩ = some (.int .i64 r.l.op) ∧ w'.cell? ⟨b2, o2 + 3, none⟩ = some (.int .i64 r.l.imm) ∧ w'.cell? ⟨b2, o2 + 4, none⟩ = some (.int .i64 r.l.iv) ∧ w'.cell? ⟨b2, o2 + 5, none⟩ = some (.slice a2.la r.l.kids.length a2.lc) ∧ w'.cell? ⟨b2, o2 + 6, none⟩ = some (.int .i64 r.r.v) ∧ w'.cell? ⟨b2, o2 + 7, none⟩ = some (.int .i64 r.r.op) ∧ w'.cell? ⟨b2, o2 + 8, none⟩ = some (.int .i64 r.r.imm) ∧ w'.cell? ⟨b2, o2 + 9, none⟩ = some (.int .i64 r.r.iv) ∧ w'.cell? ⟨b2, o2 + 10, none⟩ = some (.slice a2.ra r.r.kids.length a2.rc) ∧ w'.cell? ⟨b2, o2 + 11, none⟩ = some (.slice a2.ca r.conds.length a2.cc) ∧ w'.cell? ⟨b2, o2 + 12, none⟩ = some (.int .i64 r.vars) ∧ w'.cell? ⟨b2, o2 + 13, none⟩ = some (.int .i64 r.imms)) ∧ (w'.cell? ⟨w7.heap.size, 0, none⟩ = some (.int .i64 0) ∧ w'.cell? ⟨w7.heap.size, 1, none⟩ = some (.int .i64 0)) ∧ (w'.cell? ⟨w8.heap.size, 0, none⟩ = some (.int .i64 0) ∧ w'.cell? ⟨w8.heap.size, 1, none⟩ = some (.int .i64 0))) := fun w' u => ⟨hat1.upd u (fun f => f), hat2.upd u (fun f => f), ⟨cell_upd (HE1.out.cell 0) u (fun f => f), cell_upd (HE1.out.cell 1) u (fun f => f)⟩, ⟨cell_upd (HE2.out.cell 0) u (fun f => f), cell_upd (HE2.out.cell 1) u (fun f => f)⟩⟩
   have CQ := Lib.hid (rEqual_c r a1 r a2 wE _ _ hrk1 hrk2 HZ.out)
   rw [rlE_refl] at CQ
   have CPR := Lib.hid (fun W (u : Upd Non wE W) => rPrint_c W _ _ l1 [r] (HV1E.out.upd u (fun _ _ _ f => f)) HRZ.out HRI.out (by simp))
   have CPS := Lib.hid (fun W (u : Upd Non wE W) => rPrint_c W _ _ l2 [r] (HV2E.out.upd u (fun _ _ _ f => f)) HRZ.out HRI.out (by simp))
   obtain ⟨ps, Hps⟩ := nm (kstr (printF [r]))
   rw [Hps.out] at CPR CPS
   unfold rlv rlCells at CQ
   clear hat1 hat2 hrk1 hrk2 V1 V2 u8 v8 b8 U8 hv2 HV1 d1
   refine wp_region_held_drew (S := fun w' => (w'.cell? ⟨b1, o1, none⟩ = some (.string r.name) ∧ w'.cell? ⟨b1, o1 + 1, none⟩ = some (.int .i64 r.l.v) ∧ w'.cell? ⟨b1, o1 + 2, none⟩ = some (.int .i64 r.l.op) ∧ w'.cell? ⟨b1, o1 + 3, none⟩ = some (.int .i64 r.l.imm) ∧ w'.cell? ⟨b1, o1 + 4, none⟩ = some (.int .i64 r.l.iv) ∧ w'.cell? ⟨b1, o1 + 5, none⟩ = some (.slice a1.la r.l.kids.length a1.lc) ∧ w'.cell? ⟨b1, o1 + 6, none⟩ = some (.int .i64 r.r.v) ∧ w'.cell? ⟨b1, o1 + 7, none⟩ = some (.int .i64 r.r.op) ∧ w'.cell? ⟨b1, o1 + 8, none⟩ = some (.int .i64 r.r.imm) ∧ w'.cell? ⟨b1, o1 + 9, none⟩ = some (.int .i64 r.r.iv) ∧ w'.cell? ⟨b1, o1 + 10, none⟩ = some (.slice a1.ra r.r.kids.length a1.rc) ∧ w'.cell? ⟨b1, o1 + 11, none⟩ = some (.slice a1.ca r.conds.length a1.cc) ∧ w'.cell? ⟨b1, o1 + 12, none⟩ = some (.int .i64 r.vars) ∧ w'.cell? ⟨b1, o1 + 13, none⟩ = some (.int .i64 r.imms)) ∧ (w'.cell? ⟨b2, o2, none⟩ = some (.string r.name) ∧ w'.cell? ⟨b2, o2 + 1, none⟩ = some (.int .i64 r.l.v) ∧ w'.cell? ⟨b2, o2 + 2, none⟩ = some (.int .i64 r.l.op) ∧ w'.cell? ⟨b2, o2 + 3, none⟩ = some (.int .i64 r.l.imm) ∧ w'.cell? ⟨b2, o2 + 4, none⟩ = some (.int .i64 r.l.iv) ∧ w'.cell? ⟨b2, o2 + 5, none⟩ = some (.slice a2.la r.l.kids.length a2.lc) ∧ w'.cell? ⟨b2, o2 + 6, none⟩ = some (.int .i64 r.r.v) ∧ w'.cell? ⟨b2, o2 + 7, none⟩ = some (.int .i64 r.r.op) ∧ w'.cell? ⟨b2, o2 + 8, none⟩ = some (.int .i64 r.r.imm) ∧ w'.cell? ⟨b2, o2 + 9, none⟩ = some (.int .i64 r.r.iv) ∧ w'.cell? ⟨b2, o2 + 10, none⟩ = some (.slice a2.ra r.r.kids.length a2.rc) ∧ w'.cell? ⟨b2, o2 + 11, none⟩ = some (.slice a2.ca r.conds.length a2.cc) ∧ w'.cell? ⟨b2, o2 + 12, none⟩ = some (.int .i64 r.vars) ∧ w'.cell? ⟨b2, o2 + 13, none⟩ = some (.int .i64 r.imms)) ∧ (w'.cell? ⟨w7.heap.size, 0, none⟩ = some (.int .i64 0) ∧ w'.cell? ⟨w7.heap.size, 1, none⟩ = some (.int .i64 0)) ∧ (w'.cell? ⟨w8.heap.size, 0, none⟩ = some (.int .i64 0) ∧ w'.cell? ⟨w8.heap.size, 1, none⟩ = some (.int .i64 0))) (by kernel_rfl) (by rw [HwE.out]; exact HSS.out _ Upd.refl) (fun hHeld => ?_)
   rw [HwE.out] at hHeld ⊢
   refine wpT 0 ?_
   try simp only [put_y]
   try simp only [Act.put]
   try simp only [put_z]
   refine wpT 1 ?_
   try simp only [put_y]
   try simp only [Act.put]
   try simp only [put_z]
   refine wpT 2 ?_
   try simp only [put_y]
   try simp only [Act.put]
   try simp only [put_z]
   refine wpT 3 ?_
   try simp only [put_y]
   try simp only [Act.put]
   try simp only [put_z]
   refine wpT 4 ?_
   try simp only [put_y]
   try simp only [Act.put]
   try simp only [put_z]
   refine wpT 5 ?_
   try simp only [put_y]
   try simp only [Act.put]
   try simp only [put_z]
   refine wpT 6 ?_
   try simp only [put_y]
   try simp only [Act.put]
   try simp only [put_z]
   refine wpT 7 ?_
   try simp only [put_y]
   try simp only [Act.put]
   try simp only [put_z]
   refine wpT 8 ?_
   try simp only [put_y]
   try simp only [Act.put]
   try simp only [put_z]
   refine wpT 9 ?_
   try simp only [put_y]
   try simp only [Act.put]
   try simp only [put_z]
   refine wpT 10 ?_
   try simp only [put_y]
   try simp only [Act.put]
   try simp only [put_z]
   refine wpT 11 ?_
   try simp only [put_y]
   try simp only [Act.put]
   try simp only [put_z]
   refine wpT 12 ?_
   try simp only [put_y]
   try simp only [Act.put]
   try simp only [put_z]
   refine wpT 13 ?_
   try simp only [put_y]
   try simp only [Act.put]
   try simp only [put_z]
   refine wpT 14 ?_
   try simp only [put_y]
   try simp only [Act.put]
   try simp only [put_z]
   refine wpT 15 ?_
   try simp only [put_y]
   try simp only [Act.put]
   try simp only [put_z]
   refine wpT 16 ?_
   try simp only [put_y]
   try simp only [Act.put]
   try simp only [put_z]
   refine wpT 17 ?_
   try simp only [put_y]
   try simp only [Act.put]
   try simp only [put_z]
   refine wpT 18 ?_
   try simp only [put_y]
   try simp only [Act.put]
   try simp only [put_z]
   refine wpT 19 ?_
   try simp only [put_y]
   try simp only [Act.put]
   try simp only [put_z]
   refine wpT 20 ?_
   try simp only [put_y]
   try simp only [Act.put]
   try simp only [put_z]
   refine wpT 21 ?_
   try simp only [put_y]
   try simp only [Act.put]
   try simp only [put_z]
   refine wpT 22 ?_
   try simp only [put_y]
   try simp only [Act.put]
   try simp only [put_z]
   refine wpT 23 ?_
   try simp only [put_y]
   try simp only [Act.put]
   try simp only [put_z]
   refine wpT 24 ?_
   try simp only [put_y]
   try simp only [Act.put]
   try simp only [put_z]
   refine wpAnyH_ready (rs := [25]) (by kernel_rfl) (by simp) ?_
   refine AllReadyH.cons rfl (fun K hK => ?_) AllReadyH.nil
   go_simp
   refine CQ.out.mono ?_
   rintro e w9 ⟨rfl, u9⟩
   have HU9 := Lib.hid u9
   clear u9
   go_wp2_with fail
   refine hK.out _ _ ?_ (fun hHeld => ?_)
   ·
    exact HSS.out _ HU9.out
   clear hK K
   try simp only [put_y]
   try simp only [Act.put]
   try simp only [put_z]
   refine wpT 26 ?_
   try simp only [put_y]
   try simp only [Act.put]
   try simp only [put_z]
   refine wpT 27 ?_
   try simp only [put_y]
   try simp only [Act.put]
   try simp only [put_z]
   refine wpT 28 ?_
   try simp only [put_y]
   try simp only [Act.put]
   try simp only [put_z]
   refine wpT 30 ?_
   try simp only [put_y]
   try simp only [Act.put]
   try simp only [put_z]
   refine wpAnyH_ready (rs := [29]) (by kernel_rfl) (by simp) ?_
   refine AllReadyH.cons rfl (fun K hK => ?_) AllReadyH.nil
   go_simp
   refine (CPR.out _ HU9.out).mono ?_
   rintro e w10 ⟨rfl, u10⟩
   have HU10 := Lib.hid (HU9.out.then_non u10)
   clear u10
   go_wp2_with fail
   refine hK.out _ _ ?_ (fun hHeld => ?_)
   ·
    exact HSS.out _ HU10.out
   clear hK K
   try simp only [put_y]
   try simp only [Act.put]
   try simp only [put_z]
   refine wpAnyH_ready (rs := [31]) (by kernel_rfl) (by simp) ?_
   refine AllReadyH.cons rfl (fun K hK => ?_) AllReadyH.nil
   go_simp
   refine (CPS.out _ HU10.out).mono ?_
   rintro e w11 ⟨rfl, u11⟩
   have HU11 := Lib.hid (HU10.out.then_non u11)
   clear u11
   go_wp2_with fail
   refine hK.out _ _ ?_ (fun hHeld => ?_)
   ·
    exact HSS.out _ HU11.out
   clear hK K
   try simp only [put_y]
   try simp only [Act.put]
   try simp only [put_z]
   refine wpT 32 ?_
   try simp only [put_y]
   try simp only [Act.put]
   try simp only [put_z]
   refine wpT 33 ?_
   try simp only [put_y]
   try simp only [Act.put]
   try simp only [put_z]
   refine wpT 34 ?_
   try simp only [put_y]
   try simp only [Act.put]
   try simp only [put_z]
   refine wpAnyH_ready (rs := [35]) (by kernel_rfl) (by simp) ?_
   refine AllReadyH.cons rfl (fun K hK => ?_) AllReadyH.nil
   go_simp
   refine (CE.out _).mono ?_
   rintro e w12 ⟨rfl, u12⟩
   have HU12 := Lib.hid (HU11.out.then_non u12)
   clear u12
   go_wp2_with fail
   refine hK.out _ _ ?_ (fun hHeld => ?_)
   ·
    exact HSS.out _ HU12.out
   clear hK K
   try simp only [put_y]
   try simp only [Act.put]
   try simp only [put_z]
   refine wpT 36 ?_
   try simp only [put_y]
   try simp only [Act.put]
   try simp only [put_z]
   refine wpT 37 ?_
   try simp only [put_y]
   try simp only [Act.put]
   try simp only [put_z]
   refine wpAnyH_done (by kernel_rfl) ?_ _
   go_wp2_with fail
   go_ret
   exact ⟨rfl, HUE.out.then_non HU12.out⟩
  ·
   rw [decide_eq_false hij] at hxy
   have HALL2 := Lib.hid (HALL.out j h26.2.1 hij)
   rw [Hy.out] at HALL2
   obtain ⟨yy, rfl⟩ : ∃ v, v = y := ⟨_, rfl⟩
   obtain ⟨qyy, rfl⟩ : ∃ v, v = qy := ⟨_, rfl⟩
   have Hqyy := Hqy
   obtain ⟨WC, rfl⟩ : ∃ v : World, v = wc := ⟨_, rfl⟩
   go_upto_region 5 with fail
   rw [rnW_eq]
   have hW := rnW_is WC x yy
   rw [Hqx.out, Hqyy.out] at hW
   obtain ⟨WR, HWR⟩ := nm (rnW WC qx qyy)
   rw [HWR.out] at hW ⊢
   obtain ⟨hbR, uR⟩ := hW
   obtain ⟨k0, k1⟩ := rnCs_get h26.2.2.2 x yy
   have c0 : WR.cell? ⟨WC.heap.size, k * 2, none⟩ = some (.string (kstr (rnA k))) := by rw [hbR.cell]; exact k0
   have c1 : WR.cell? ⟨WC.heap.size, k * 2 + 1, none⟩ = some (.string (kstr (rnB k x yy))) := by rw [hbR.cell]; exact k1
   obtain ⟨hp1, hp2, hz, hri⟩ := HALL2.out
   have CA := Lib.hid (fun W => rParse_all (kstr (rnA k)) W)
   have CB := Lib.hid (fun W => rParse_all (kstr (rnB k x yy)) W)
   rw [kx_kstr, hp1] at CA
   rw [kx_kstr, hp2] at CB
   obtain ⟨tA, HtA⟩ := nm (kstr (rnA k))
   obtain ⟨tB, HtB⟩ := nm (kstr (rnB k x yy))
   rw [HtA.out] at c0 CA
   rw [HtB.out] at c1 CB
   obtain ⟨r, Hr⟩ := nm (rnP k)
   rw [Hr.out] at CA CB hz hri
   have HRZ : Hid (∀ q ∈ [r], RlSz q) := fun q hq => by rw [List.mem_singleton] at hq; rw [hq]; exact hz
   have HRI : Hid (∀ q ∈ [r], RlI q) := fun q hq => by rw [List.mem_singleton] at hq; rw [hq]; exact hri
   have HZ := Lib.hid hz
   have HUR := Lib.hid (HWC.out.then_non uR)
   have hk3 := h26.2.2.2
   have C4R := Lib.hid (C4.out WR)
   clear hbR uR k0 k1 hp1 hp2 hz hri HALL HXY h26 hne
   go_wp2_with fail
   refine C4R.out.mono ?_
   rintro e w5 ⟨rfl, rfl⟩
   obtain ⟨w5, rfl⟩ : ∃ v : World, v = WR := ⟨_, rfl⟩
   obtain ⟨W6, HW6⟩ := nm (w5.alloc (.cells #[.string tA, .string tB] 49))
   have u6 : Upd Non w5 W6 := by rw [← HW6.out]; exact Upd.refl.alloc _
   have b6 : Blk W6 w5.heap.size 49 #[.string tA, .string tB] := by rw [← HW6.out]; exact Blk.new _ _ _
   have d0 := b6.cell 0
   have HB6 := Lib.hid b6
   have HU6 := Lib.hid (HUR.out.then_non u6)
   have CA6 := Lib.hid (CA.out W6)
   clear C4R u6 b6
   go_upto_region 6 with fail
   rw [HW6.out]
   clear c0 c1
   go_wp2_with fail
   refine CA6.out.mono ?_
   rintro e w7 ⟨u7, h⟩
   rcases h with ⟨er, h, _⟩ | ⟨Q, A1, l1, h, rfl, hv1, -⟩
   ·
    cases h
   injection h with h
   subst h
   have HB7 := Lib.hid (HB6.out.upd u7 (fun f => f))
   obtain ⟨W7, HW7⟩ := nm (w7.alloc (.cells #[.int .i64 0, .int .i64 0] 25))
   have v7 : Upd Non w7 W7 := by rw [← HW7.out]; exact Upd.refl.alloc _
   have b7 : Blk W7 w7.heap.size 25 #[.int .i64 0, .int .i64 0] := by rw [← HW7.out]; exact Blk.new _ _ _
   have HU7 := Lib.hid ((HU6.out.then_non u7).then_non v7)
   have HE7 := Lib.hid b7
   have HV1 := Lib.hid (hv1.upd v7 (fun _ _ _ f => f))
   have d1 := (HB7.out.upd v7 (fun f => f)).cell 1
   have CB7 := Lib.hid (CB.out W7)
   clear CA6 CA CB u7 v7 b7 hv1 d0
   go_upto_region 7 with fail
   rw [HW7.out]
   go_wp2_with fail
   refine CB7.out.mono ?_
   rintro e w8 ⟨u8, h⟩
   rcases h with ⟨er, h, _⟩ | ⟨Q, A2, l2, h, rfl, hv2, -⟩
   ·
    cases h
   injection h with h
   subst h
   obtain ⟨W8, HW8⟩ := nm (w8.alloc (.cells #[.int .i64 0, .int .i64 0] 25))
   have v8 : Upd Non w8 W8 := by rw [← HW8.out]; exact Upd.refl.alloc _
   have b8 : Blk W8 w8.heap.size 25 #[.int .i64 0, .int .i64 0] := by rw [← HW8.out]; exact Blk.new _ _ _
   have U8 := u8.then_non v8
   clear CB7
   go_upto_region 8 with fail
   rw [HW8.out]
   obtain ⟨wE, HwE⟩ := nm W8.drew
   have uE : Upd Non W8 wE := by rw [← HwE.out]; exact Upd.refl.drew
   have V1 := HV1.out.upd (U8.then_non uE) (fun _ _ _ f => f)
   have V2 := hv2.upd (v8.then_non uE) (fun _ _ _ f => f)
   have HE1 := Lib.hid (HE7.out.upd (U8.then_non uE) (fun f => f))
   have HE2 := Lib.hid (b8.upd uE (fun f => f))
   have HUE := Lib.hid ((HU7.out.then_non U8).then_non uE)
   obtain ⟨b1, o1, a1, rfl, -, -, hat1, hrk1⟩ := V1.at_ (i := 0) (by simp)
   obtain ⟨b2, o2, a2, rfl, -, -, hat2, hrk2⟩ := V2.at_ (i := 0) (by simp)
   rw [List.getElem_cons_zero, Nat.zero_mul, Nat.add_zero] at hat1 hat2
   rw [List.getElem_cons_zero] at hrk1 hrk2
   have HV1E := Lib.hid V1
   have HV2E := Lib.hid V2
   have HSS : Hid (∀ w', Upd Non wE w' → (w'.cell? ⟨b1, o1, none⟩ = some (.string r.name) ∧ w'.cell? ⟨b1, o1 + 1, none⟩ = some (.int .i64 r.l.v) ∧ w'.cell? ⟨b1, o1 + 2, none⟩ = some (.int .i64 r.l.op) ∧ w'.cell? ⟨b1, o1 + 3, none⟩ = some (.int .i64 r.l.imm) ∧ w'.cell? ⟨b1, o1 + 4, none⟩ = some (.int .i64 r.l.iv) ∧ w'.cell? ⟨b1, o1 + 5, none⟩ = some (.slice a1.la r.l.kids.length a1.lc) ∧ w'.cell? ⟨b1, o1 + 6, none⟩ = some (.int .i64 r.r.v) ∧ w'.cell? ⟨b1, o1 + 7, none⟩ = some (.int .i64 r.r.op) ∧ w'.cell? ⟨b1, o1 + 8, none⟩ = some (.int .i64 r.r.imm) ∧ w'.cell? ⟨b1, o1 + 9, none⟩ = some (.int .i64 r.r.iv) ∧ w'.cell? ⟨b1, o1 + 10, none⟩ = some (.slice a1.ra r.r.kids.length a1.rc) ∧ w'.cell? ⟨b1, o1 + 11, none⟩ = some (.slice a1.ca r.conds.length a1.cc) ∧ w'.cell? ⟨b1, o1 + 12, none⟩ = some (.int .i64 r.vars) ∧ w'.cell? ⟨b1, o1 + 13, none⟩ = some (.int .i64 r.imms)) ∧ (w'.cell? ⟨b2, o2, none⟩ = some (.string r.name) ∧ w'.cell? ⟨b2, o2 + 1, none⟩ = some (.int .i64 r.l.v) ∧ w'.cell? ⟨b2, o2 + 2, none⟩ = some (.int .i64 r.l.op) ∧ w'.cell? ⟨b2, o2 + 3, none⟩ = some (.int .i64 r.l.imm) ∧ w'.cell? ⟨b2, o2 + 4, none⟩ = some (.int .i64 r.l.iv) ∧ w'.cell? ⟨b2, o2 + 5, none⟩ = some (.slice a2.la r.l.kids.length a2.lc) ∧ w'.cell? ⟨b2, o2 + 6, none⟩ = some (.int .i64 r.r.v) ∧ w'.cell? ⟨b2, o2 + 7, none⟩ = some (.int .i64 r.r.op) ∧ w'.cell? ⟨b2, o2 + 8, none⟩ = some (.int .i64 r.r.imm) ∧ w'.cell? ⟨b2, o2 + 9, none⟩ = some (.int .i64 r.r.iv) ∧ w'.cell? ⟨b2, o2 + 10, none⟩ = some (.slice a2.ra r.r.kids.length a2.rc) ∧ w'.cell? ⟨b2, o2 + 11, none⟩ = some (.slice a2.ca r.conds.length a2.cc) ∧ w'.cell? ⟨b2, o2 + 12, none⟩ = some (.int .i64 r.vars) ∧ w'.cell? ⟨b2, o2 + 13, none⟩ = some (.int .i64 r.imms)) ∧ (w'.cell? ⟨w7.heap.size, 0, none⟩ = some (.int .i64 0) ∧ w'.cell? ⟨w7.heap.size, 1, none⟩ = some (.int .i64 0)) ∧ (w'.cell? ⟨w8.heap.size, 0, none⟩ = some (.int .i64 0) ∧ w'.cell? ⟨w8.heap.size, 1, none⟩ = some (.int .i64 0))) := fun w' u => ⟨hat1.upd u (fun f => f), hat2.upd u (fun f => f), ⟨cell_upd (HE1.out.cell 0) u (fun f => f), cell_upd (HE1.out.cell 1) u (fun f => f)⟩, ⟨cell_upd (HE2.out.cell 0) u (fun f => f), cell_upd (HE2.out.cell 1) u (fun f => f)⟩⟩
   have CQ := Lib.hid (rEqual_c r a1 r a2 wE _ _ hrk1 hrk2 HZ.out)
   rw [rlE_refl] at CQ
   have CPR := Lib.hid (fun W (u : Upd Non wE W) => rPrint_c W _ _ l1 [r] (HV1E.out.upd u (fun _ _ _ f => f)) HRZ.out HRI.out (by simp))
   have CPS := Lib.hid (fun W (u : Upd Non wE W) => rPrint_c W _ _ l2 [r] (HV2E.out.upd u (fun _ _ _ f => f)) HRZ.out HRI.out (by simp))
   obtain ⟨ps, Hps⟩ := nm (kstr (printF [r]))
   rw [Hps.out] at CPR CPS
   unfold rlv rlCells at CQ
   clear hat1 hat2 hrk1 hrk2 V1 V2 u8 v8 b8 U8 hv2 HV1 d1
   refine wp_region_held_drew (S := fun w' => (w'.cell? ⟨b1, o1, none⟩ = some (.string r.name) ∧ w'.cell? ⟨b1, o1 + 1, none⟩ = some (.int .i64 r.l.v) ∧ w'.cell? ⟨b1, o1 + 2, none⟩ = some (.int .i64 r.l.op) ∧ w'.cell? ⟨b1, o1 + 3, none⟩ = some (.int .i64 r.l.imm) ∧ w'.cell? ⟨b1, o1 + 4, none⟩ = some (.int .i64 r.l.iv) ∧ w'.cell? ⟨b1, o1 + 5, none⟩ = some (.slice a1.la r.l.kids.length a1.lc) ∧ w'.cell? ⟨b1, o1 + 6, none⟩ = some (.int .i64 r.r.v) ∧ w'.cell? ⟨b1, o1 + 7, none⟩ = some (.int .i64 r.r.op) ∧ w'.cell? ⟨b1, o1 + 8, none⟩ = some (.int .i64 r.r.imm) ∧ w'.cell? ⟨b1, o1 + 9, none⟩ = some (.int .i64 r.r.iv) ∧ w'.cell? ⟨b1, o1 + 10, none⟩ = some (.slice a1.ra r.r.kids.length a1.rc) ∧ w'.cell? ⟨b1, o1 + 11, none⟩ = some (.slice a1.ca r.conds.length a1.cc) ∧ w'.cell? ⟨b1, o1 + 12, none⟩ = some (.int .i64 r.vars) ∧ w'.cell? ⟨b1, o1 + 13, none⟩ = some (.int .i64 r.imms)) ∧ (w'.cell? ⟨b2, o2, none⟩ = some (.string r.name) ∧ w'.cell? ⟨b2, o2 + 1, none⟩ = some (.int .i64 r.l.v) ∧ w'.cell? ⟨b2, o2 + 2, none⟩ = some (.int .i64 r.l.op) ∧ w'.cell? ⟨b2, o2 + 3, none⟩ = some (.int .i64 r.l.imm) ∧ w'.cell? ⟨b2, o2 + 4, none⟩ = some (.int .i64 r.l.iv) ∧ w'.cell? ⟨b2, o2 + 5, none⟩ = some (.slice a2.la r.l.kids.length a2.lc) ∧ w'.cell? ⟨b2, o2 + 6, none⟩ = some (.int .i64 r.r.v) ∧ w'.cell? ⟨b2, o2 + 7, none⟩ = some (.int .i64 r.r.op) ∧ w'.cell? ⟨b2, o2 + 8, none⟩ = some (.int .i64 r.r.imm) ∧ w'.cell? ⟨b2, o2 + 9, none⟩ = some (.int .i64 r.r.iv) ∧ w'.cell? ⟨b2, o2 + 10, none⟩ = some (.slice a2.ra r.r.kids.length a2.rc) ∧ w'.cell? ⟨b2, o2 + 11, none⟩ = some (.slice a2.ca r.conds.length a2.cc) ∧ w'.cell? ⟨b2, o2 + 12, none⟩ = some (.int .i64 r.vars) ∧ w'.cell? ⟨b2, o2 + 13, none⟩ = some (.int .i64 r.imms)) ∧ (w'.cell? ⟨w7.heap.size, 0, none⟩ = some (.int .i64 0) ∧ w'.cell? ⟨w7.heap.size, 1, none⟩ = some (.int .i64 0)) ∧ (w'.cell? ⟨w8.heap.size, 0, none⟩ = some (.int .i64 0) ∧ w'.cell? ⟨w8.heap.size, 1, none⟩ = some (.int .i64 0))) (by kernel_rfl) (by rw [HwE.out]; exact HSS.out _ Upd.refl) (fun hHeld => ?_)
   rw [HwE.out] at hHeld ⊢
   refine wpT 0 ?_
   try simp only [put_y]
   try simp only [Act.put]
   try simp only [put_z]
   refine wpT 1 ?_
   try simp only [put_y]
   try simp only [Act.put]
   try simp only [put_z]
   refine wpT 2 ?_
   try simp only [put_y]
   try simp only [Act.put]
   try simp only [put_z]
   refine wpT 3 ?_
   try simp only [put_y]
   try simp only [Act.put]
   try simp only [put_z]
   refine wpT 4 ?_
   try simp only [put_y]
   try simp only [Act.put]
   try simp only [put_z]
   refine wpT 5 ?_
   try simp only [put_y]
   try simp only [Act.put]
   try simp only [put_z]
   refine wpT 6 ?_
   try simp only [put_y]
   try simp only [Act.put]
   try simp only [put_z]
   refine wpT 7 ?_
   try simp only [put_y]
   try simp only [Act.put]
   try simp only [put_z]
   refine wpT 8 ?_
   try simp only [put_y]
   try simp only [Act.put]
   try simp only [put_z]
   refine wpT 9 ?_
   try simp only [put_y]
   try simp only [Act.put]
   try simp only [put_z]
   refine wpT 10 ?_
   try simp only [put_y]
   try simp only [Act.put]
   try simp only [put_z]
   refine wpT 11 ?_
   try simp only [put_y]
   try simp only [Act.put]
   try simp only [put_z]
   refine wpT 12 ?_
   try simp only [put_y]
   try simp only [Act.put]
   try simp only [put_z]
   refine wpT 13 ?_
   try simp only [put_y]
   try simp only [Act.put]
   try simp only [put_z]
   refine wpT 14 ?_
   try simp only [put_y]
   try simp only [Act.put]
   try simp only [put_z]
   refine wpT 15 ?_
   try simp only [put_y]
   try simp only [Act.put]
   try simp only [put_z]
   refine wpT 16 ?_
   try simp only [put_y]
   try simp only [Act.put]
   try simp only [put_z]
   refine wpT 17 ?_
   try simp only [put_y]
   try simp only [Act.put]
   try simp only [put_z]
   refine wpT 18 ?_
   try simp only [put_y]
   try simp only [Act.put]
   try simp only [put_z]
   refine wpT 19 ?_
   try simp only [put_y]
   try simp only [Act.put]
   try simp only [put_z]
   refine wpT 20 ?_
   try simp only [put_y]
   try simp only [Act.put]
   try simp only [put_z]
   refine wpT 21 ?_
   try simp only [put_y]
   try simp only [Act.put]
   try simp only [put_z]
   refine wpT 22 ?_
   try simp only [put_y]
   try simp only [Act.put]
   try simp only [put_z]
   refine wpT 23 ?_
   try simp only [put_y]
   try simp only [Act.put]
   try simp only [put_z]
   refine wpT 24 ?_
   try simp only [put_y]
   try simp only [Act.put]
   try simp only [put_z]
   refine wpAnyH_ready (rs := [25]) (by kernel_rfl) (by simp) ?_
   refine AllReadyH.cons rfl (fun K hK => ?_) AllReadyH.nil
   go_simp
   refine CQ.out.mono ?_
   rintro e w9 ⟨rfl, u9⟩
   have HU9 := Lib.hid u9
   clear u9
   go_wp2_with fail
   refine hK.out _ _ ?_ (fun hHeld => ?_)
   ·
    exact HSS.out _ HU9.out
   clear hK K
   try simp only [put_y]
   try simp only [Act.put]
   try simp only [put_z]
   refine wpT 26 ?_
   try simp only [put_y]
   try simp only [Act.put]
   try simp only [put_z]
   refine wpT 27 ?_
   try simp only [put_y]
   try simp only [Act.put]
   try simp only [put_z]
   refine wpT 28 ?_
   try simp only [put_y]
   try simp only [Act.put]
   try simp only [put_z]
   refine wpT 30 ?_
   try simp only [put_y]
   try simp only [Act.put]
   try simp only [put_z]
   refine wpAnyH_ready (rs := [29]) (by kernel_rfl) (by simp) ?_
   refine AllReadyH.cons rfl (fun K hK => ?_) AllReadyH.nil
   go_simp
   refine (CPR.out _ HU9.out).mono ?_
   rintro e w10 ⟨rfl, u10⟩
   have HU10 := Lib.hid (HU9.out.then_non u10)
   clear u10
   go_wp2_with fail
   refine hK.out _ _ ?_ (fun hHeld => ?_)
   ·
    exact HSS.out _ HU10.out
   clear hK K
   try simp only [put_y]
   try simp only [Act.put]
   try simp only [put_z]
   refine wpAnyH_ready (rs := [31]) (by kernel_rfl) (by simp) ?_
   refine AllReadyH.cons rfl (fun K hK => ?_) AllReadyH.nil
   go_simp
   refine (CPS.out _ HU10.out).mono ?_
   rintro e w11 ⟨rfl, u11⟩
   have HU11 := Lib.hid (HU10.out.then_non u11)
   clear u11
   go_wp2_with fail
   refine hK.out _ _ ?_ (fun hHeld => ?_)
   ·
    exact HSS.out _ HU11.out
   clear hK K
   try simp only [put_y]
   try simp only [Act.put]
   try simp only [put_z]
   refine wpT 32 ?_
   try simp only [put_y]
   try simp only [Act.put]
   try simp only [put_z]
   refine wpT 33 ?_
   try simp only [put_y]
   try simp only [Act.put]
   try simp only [put_z]
   refine wpT 34 ?_
   try simp only [put_y]
   try simp only [Act.put]
   try simp only [put_z]
   refine wpAnyH_ready (rs := [35]) (by kernel_rfl) (by simp) ?_
   refine AllReadyH.cons rfl (fun K hK => ?_) AllReadyH.nil
   go_simp
   refine (CE.out _).mono ?_
   rintro e w12 ⟨rfl, u12⟩
   have HU12 := Lib.hid (HU11.out.then_non u12)
   clear u12
   go_wp2_with fail
   refine hK.out _ _ ?_ (fun hHeld => ?_)
   ·
    exact HSS.out _ HU12.out
   clear hK K
   try simp only [put_y]
   try simp only [Act.put]
   try simp only [put_z]
   refine wpT 36 ?_
   try simp only [put_y]
   try simp only [Act.put]
   try simp only [put_z]
   refine wpT 37 ?_
   try simp only [put_y]
   try simp only [Act.put]
   try simp only [put_z]
   refine wpAnyH_done (by kernel_rfl) ?_ _
   go_wp2_with fail
   go_ret
   exact ⟨rfl, HUE.out.then_non HU12.out⟩
end Go.Proofs.Ytblkgjdhaibhgaa
