/-
  What the functions of fullingref1 on words do: Div, boolWord, Unary, Binary.
-/
import Derived.Test.YtnefhokojbkppaaPtV
import Derived.IntWalk
namespace Go.Proofs.Ytnefhokojbkppaa
open Go.RowKit

def divF (a b : Int) : Int := if b = 0 then 0 else if b = -1 then wrap64 (-a) else wrap64 (a.tdiv b)

set_option maxHeartbeats 400000 in
theorem div_c (a b : Int) (w : World) : Calls Try.prog 52 #[.int .i64 a, .int .i64 b] w fun e w' => e = .returned (.int .i64 (divF a b)) ∧ w = w' := by
  by_cases h0 : b = 0
  · subst h0
    go_enter Try.func52, Try.ntmps52
    go_wp2_with fail
    go_ret
    exact ⟨rfl, rfl⟩
  · have d0 : (b == 0) = false := by simpa using h0
    by_cases h1 : b = -1
    · subst h1
      go_enter Try.func52, Try.ntmps52
      go_wp2_with fail
      go_ret
      exact ⟨rfl, rfl⟩
    · have d1 : (b == -1) = false := by simpa using h1
      have HD : Hid (divF a b = wrap64 (a.tdiv b)) := by show _ = _; unfold divF; rw [if_neg h0, if_neg h1]
      clear h1
      go_enter Try.func52, Try.ntmps52
      go_wp2_with fail
      go_ret
      exact ⟨by rw [HD.out]; rfl, rfl⟩

def bW (b : Bool) : Int := if b then 1 else 0
theorem boolWord_c (b : Bool) (w : World) : Calls Try.prog 53 #[.bool b] w fun e w' => e = .returned (.int .i64 (bW b)) ∧ w = w' := by
  cases b
  all_goals
    go_enter Try.func53, Try.ntmps53
    go_wp2
    go_ret
    exact ⟨rfl, rfl⟩

def unF (op a : Int) : Int := if op = 20 then wrap64 (-a) else if op = 21 then bits .xor .i64 (-1) a else 0

set_option maxHeartbeats 400000 in
theorem unary_c (op a : Int) (w : World) : Calls Try.prog 31 #[.int .i64 op, .int .i64 a] w fun e w' => e = .returned (.int .i64 (unF op a)) ∧ w = w' := by
  by_cases h0 : op = 20
  · subst h0
    go_enter Try.func31, Try.ntmps31
    go_wp2_with fail
    go_ret
    exact ⟨rfl, rfl⟩
  · by_cases h1 : op = 21
    · subst h1
      go_enter Try.func31, Try.ntmps31
      go_wp2_with fail
      go_ret
      exact ⟨rfl, rfl⟩
    · have HU : Hid (unF op a = 0) := by show _ = _; unfold unF; rw [if_neg h0, if_neg h1]
      have d0 : (op == 20) = false := by simpa using h0
      have d1 : (op == 21) = false := by simpa using h1
      go_enter Try.func31, Try.ntmps31
      go_wp2_with fail
      go_ret
      exact ⟨by rw [HU.out]; rfl, rfl⟩

def shF (b : Int) : Nat := min (IntKind.u64.wrap (bits .and .i64 b 63)).toNat 64
def remF (a b : Int) : Int := if b = 0 then 0 else wrap64 (a - wrap64 (divF a b * b))
def binF (op a b : Int) : Int :=
  if op = 4 then wrap64 (a + b) else if op = 5 then wrap64 (a - b) else if op = 6 then wrap64 (a * b) else if op = 7 then divF a b else if op = 8 then remF a b
  else if op = 9 then bits .and .i64 a b else if op = 10 then bits .or .i64 a b else if op = 11 then bits .xor .i64 a b
  else if op = 12 then wrap64 (a * 2 ^ shF b) else if op = 13 then wrap64 (IntKind.u64.wrap a / 2 ^ shF b) else if op = 14 then a / 2 ^ shF b
  else if op = 15 then bW (a == b) else if op = 16 then bW (a != b) else if op = 17 then bW (decide (a < b)) else if op = 18 then bW (decide (a ≤ b)) else if op = 19 then bW (decide (IntKind.u64.wrap a < IntKind.u64.wrap b)) else 0

set_option maxHeartbeats 4000000 in
theorem binary_c (op a b : Int) (w : World) (h : 4 ≤ op) (h' : op ≤ 19) : Calls Try.prog 32 #[.int .i64 op, .int .i64 a, .int .i64 b] w fun e w' => e = .returned (.int .i64 (binF op a b)) ∧ w = w' := by
  have hop : op = 4 ∨ op = 5 ∨ op = 6 ∨ op = 7 ∨ op = 8 ∨ op = 9 ∨ op = 10 ∨ op = 11 ∨ op = 12 ∨ op = 13 ∨ op = 14 ∨ op = 15 ∨ op = 16 ∨ op = 17 ∨ op = 18 ∨ op = 19 := by omega
  clear h h'
  have CD := Lib.hid (div_c a b w)
  rcases hop with rfl | rfl | rfl | rfl | rfl | rfl | rfl | rfl | rfl | rfl | rfl | rfl | rfl | rfl | rfl | rfl
  case inr.inr.inr.inr.inl =>
    by_cases h0 : b = 0
    · subst h0
      go_enter Try.func32, Try.ntmps32
      go_wp2_with fail
      go_ret
      exact ⟨rfl, rfl⟩
    · have HR : Hid (binF 8 a b = wrap64 (a - wrap64 (divF a b * b))) := by show remF a b = _; unfold remF; rw [if_neg h0]
      have d0 : (b == 0) = false := by simpa using h0
      clear h0
      obtain ⟨q, Hq⟩ := nm (divF a b)
      rw [Hq.out] at CD HR
      go_enter Try.func32, Try.ntmps32
      go_wp2_with fail
      refine CD.out.mono ?_
      rintro e w1 ⟨rfl, rfl⟩
      go_wp2_with fail
      go_ret
      exact ⟨by rw [HR.out]; rfl, rfl⟩
  case inr.inr.inr.inl =>
    obtain ⟨q, Hq⟩ := nm (divF a b)
    rw [Hq.out] at CD
    have HR : Hid (binF 7 a b = q) := Hq.out
    go_enter Try.func32, Try.ntmps32
    go_wp2_with fail
    refine CD.out.mono ?_
    rintro e w1 ⟨rfl, rfl⟩
    go_wp2_with fail
    go_ret
    exact ⟨by rw [HR.out]; rfl, rfl⟩
  all_goals
    go_enter Try.func32, Try.ntmps32
    go_wp2_with (go_at_call 53; refine (boolWord_c _ _).mono ?_; rintro e w1 ⟨rfl, rfl⟩)
    go_ret
    exact ⟨rfl, rfl⟩
end Go.Proofs.Ytnefhokojbkppaa
