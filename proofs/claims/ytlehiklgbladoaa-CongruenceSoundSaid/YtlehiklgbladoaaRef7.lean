/-
  What the reference's and the generator's small functions compute, in plain Lean. No program in sight.
-/
import Derived.Test.YtlehiklgbladoaaCong
namespace Go.Proofs.Ytlehiklgbladoaa

def I64 (x : Int) : Prop := -9223372036854775808 ≤ x ∧ x ≤ 9223372036854775807
theorem I64.tdiv {n : Int} (h : I64 n) (c : Nat) (hc : 2 ≤ c) : I64 (n.tdiv c) := by
  have h1 : (n.tdiv c).natAbs = n.natAbs / (c : Int).natAbs := Int.natAbs_tdiv n c
  have h2 : n.natAbs / (c : Int).natAbs ≤ n.natAbs / 2 := by
    rw [Int.natAbs_natCast]
    exact Nat.div_le_div_left hc (by omega)
  rw [← h1] at h2
  generalize n.tdiv c = q at *
  unfold I64 at *
  omega
theorem tmod_pick (n m : Int) (hm : 0 < m) : n % m = if n.tmod m < 0 then n.tmod m + m else n.tmod m := by
  have h1 := Int.tmod_lt_of_pos n hm
  have h2 := Int.lt_tmod_of_pos n hm
  have h3 : (n.tmod m) % m = n % m := by rw [Int.tmod_def, Int.sub_mul_emod_self_left]
  split
  · rw [← h3, ← Int.add_emod_right, Int.emod_eq_of_lt (by omega) (by omega)]
  · rw [← h3, Int.emod_eq_of_lt (by omega) (by omega)]
def arityF (op : Int) : Int × Bool :=
  if op = 1 ∨ op = 2 ∨ op = 3 ∨ op = 26 then (0, true)
  else if op = 20 ∨ op = 21 ∨ op = 24 ∨ op = 25 then (1, true)
  else if (4 ≤ op ∧ op ≤ 19) ∨ op = 23 ∨ op = 27 ∨ op = 29 then (2, true)
  else if op = 22 ∨ op = 28 then (3, true)
  else if op = 30 ∨ op = 31 then (-1, true)
  else (0, false)
def maxImmF (op : Int) : Int :=
  if op = 2 then 5 else if op = 3 then 255 else if op = 23 ∨ op = 28 then 3 else if op = 27 then 1000016 else if op = 30 then 7 else if op = 31 then 15 else if op = 25 then 15 else -1
def validImmF (op n : Int) : Bool :=
  if op = 1 then true else if maxImmF op < 0 then decide (n = 0) else decide (0 ≤ n ∧ n ≤ maxImmF op ∧ (op ≠ 27 ∨ 0 < n))
def pSortF (op : Int) : Int := if op = 27 ∨ op = 28 ∨ op = 29 then 2 else 1
def operandSortF (op k : Int) : Int := if k = 0 ∧ (pSortF op = 2 ∨ op = 23 ∨ op = 24) then 2 else 1
def sortIfF (b : Bool) (n : Int) : Int := if b then n else 0
def allOne (k : List Int) : Bool := k.all fun x => decide (x = 1)
def edgesF : List Int := [0, 1, -1, 2, -9223372036854775808, 9223372036854775807, 4294967296, -2147483648, 63, 64]
def wordF (n raw : Int) : Int := if n % 24 < 10 then edgesF.getD (n % 24).toNat 0 else if n % 24 < 22 then (n.tdiv 24) % 17 - 6 else raw

/-- The node is malformed by itself: its operation, the number of its operands or its immediate operand. -/
def badNode (op imm : Int) (kids : List Int) : Bool :=
  !(arityF op).2 || (decide (0 ≤ (arityF op).1) && decide ((kids.length : Int) ≠ (arityF op).1)) || !validImmF op imm
def goodSortF (L : List Nd) (op imm : Int) (kids k : List Int) : Int :=
  if op = 3 then (if imm.tmod 16 = 0 then 2 else 1)
  else if op = 26 then 2
  else if op = 22 then (if k.getD 0 0 ≠ 1 ∨ k.getD 1 0 ≠ k.getD 2 0 ∨ k.getD 1 0 = 3 then 0 else k.getD 1 0)
  else if op = 23 then sortIfF (decide (k.getD 0 0 = 2 ∧ k.getD 1 0 = 1)) 1
  else if op = 24 then sortIfF (decide (k.getD 0 0 = 2)) 1
  else if op = 25 then (if k.getD 0 0 ≠ 3 ∨ ((L.getD (kids.getD 0 0).toNat ⟨0, 0, []⟩).kids.length : Int) / 2 ≤ imm then 0 else sortIfF (decide (imm = 0)) 1 + 1)
  else if op = 27 ∨ op = 29 then sortIfF (decide (k.getD 0 0 = 2 ∧ k.getD 1 0 = 1)) 2
  else if op = 28 then sortIfF (decide (k.getD 0 0 = 2 ∧ k.getD 1 0 = 1 ∧ k.getD 2 0 = 1)) 2
  else if op = 30 then sortIfF (decide (1 ≤ k.length ∧ k.length ≤ 7 ∧ k.getD 0 0 = 2 ∧ allOne (k.drop 1) = true)) 2
  else if op = 31 then sortIfF (decide (k.length % 2 = 1 ∧ 1 ≤ k.length / 2 ∧ k.length / 2 ≤ 16 ∧ k.getD 0 0 = 2 ∧ allOne ((k.drop 1).take (k.length / 2)) = true ∧ k.getD (k.length / 2 + 1) 0 = 2 ∧ allOne (k.drop (k.length / 2 + 2)) = true)) 3
  else sortIfF (allOne k) 1
def nodeSortF (L : List Nd) (op imm : Int) (kids k : List Int) : Int := if badNode op imm kids then 0 else goodSortF L op imm kids k
end Go.Proofs.Ytlehiklgbladoaa
