/-
  What the printers of rules print, in plain terms. No program in sight.
-/
import Derived.Test.YtblkgjdhaibhgaaAppP
namespace Go.Proofs.Ytblkgjdhaibhgaa
open Go.RowKit

theorem kstr_app (a b : Bs) : kstr a ++ kstr b = kstr (a ++ b) := by
  apply kx_inj
  rw [kx_kstr]
  simp [kx, kstr]
def decG : Nat → Nat → Bs
  | 0, _ => []
  | f + 1, n => if n < 10 then [UInt8.ofNat (48 + n)] else decG f (n / 10) ++ [UInt8.ofNat (48 + n % 10)]
/-- The digits of a number of at most twenty. -/
def decD (n : Nat) : Bs := decG 20 n
def textF (n : Int) : Bs := if n < 0 then 45 :: decD n.natAbs else decD n.natAbs
def vnF (n : Int) : Bs := [63, UInt8.ofNat (96 + n.toNat)]
def inF (n : Int) : Bs := [UInt8.ofNat (106 + n.toNat)]
def opNm (op : Int) : Bs := nameL.getD (op - 4).toNat []
mutual
def fmtF : Pt → Bs
  | .mk v op imm iv ks =>
    if 0 < v then vnF v
    else if op = 1 then (if 0 < iv then 36 :: inF iv else textF imm)
    else [40] ++ opNm op ++ (if 0 < iv then 46 :: inF iv else if immOp op = true then 46 :: textF imm else []) ++ fmtL ks ++ [41]
def fmtL : List Pt → Bs
  | [] => []
  | k :: ks => 32 :: fmtF k ++ fmtL ks
end
def condNm (k : Int) : Bs := condL.getD (k - 1).toNat []
def fmtC (c : Cd) : Bs :=
  condNm c.kind ++ [32] ++ (if c.kind = 1 then vnF c.a else if c.kind = 4 then vnF c.a ++ [32] ++ vnF c.b else if c.kind = 5 then vnF c.a ++ [32] ++ inF c.b else if c.kind = 6 then inF c.a ++ [32] ++ inF c.b else vnF c.a ++ [32] ++ textF c.n)
def fmtCs : List Cd → Bool → Bs
  | [], _ => []
  | c :: cs, first => (if first then [32, 105, 102, 32] else [44, 32]) ++ fmtC c ++ fmtCs cs false
def fmtR (r : Rl) : Bs := [114, 117, 108, 101, 32] ++ kx r.name ++ [58, 32] ++ fmtF r.l ++ [32, 61, 62, 32] ++ fmtF r.r ++ fmtCs r.conds true ++ [59, 10]
def fmtRs : List Rl → Bs
  | [] => []
  | r :: l => fmtR r ++ fmtRs l
def printF (l : List Rl) : Bs := if l.all implF then fmtRs l else []

theorem decG_lt (f : Nat) {n : Nat} (h : n < 10) : decG (f + 1) n = [UInt8.ofNat (48 + n)] := if_pos h
theorem decG_ge (f : Nat) {n : Nat} (h : ¬ n < 10) : decG (f + 1) n = decG f (n / 10) ++ [UInt8.ofNat (48 + n % 10)] := if_neg h
theorem decG_fuel : ∀ (f g n : Nat), n < 10 ^ (f + 1) → n < 10 ^ (g + 1) → decG (f + 1) n = decG (g + 1) n
  | 0, g, n, h, _ => by rw [decG_lt 0 (by simpa using h), decG_lt g (by simpa using h)]
  | f + 1, 0, n, _, h => by rw [decG_lt (f + 1) (by simpa using h), decG_lt 0 (by simpa using h)]
  | f + 1, g + 1, n, h, k => by
    by_cases hn : n < 10
    · rw [decG_lt (f + 1) hn, decG_lt (g + 1) hn]
    · rw [decG_ge (f + 1) hn, decG_ge (g + 1) hn, decG_fuel f g (n / 10) (by rw [Nat.div_lt_iff_lt_mul (by decide)]; rw [Nat.pow_succ] at h; exact h) (by rw [Nat.div_lt_iff_lt_mul (by decide)]; rw [Nat.pow_succ] at k; exact k)]
theorem decD_lt {n : Nat} (h : n < 10) : decD n = [UInt8.ofNat (48 + n)] := decG_lt 19 h
theorem decD_ge {n : Nat} (h : ¬ n < 10) (hn : n < 10 ^ 20) : decD n = decD (n / 10) ++ [UInt8.ofNat (48 + n % 10)] := by
  have e : decD n = decG 19 (n / 10) ++ [UInt8.ofNat (48 + n % 10)] := decG_ge 19 h
  rw [e, decG_fuel 18 19 (n / 10) (by omega) (by omega)]
  rfl
theorem decG_len : ∀ (f n : Nat), (decG f n).length ≤ f
  | 0, n => by simp [decG]
  | f + 1, n => by
    rw [decG]
    split
    · simp
    · rw [List.length_append]
      have := decG_len f (n / 10)
      simp; omega
theorem decD_len (n : Nat) : (decD n).length ≤ 20 := decG_len 20 n
theorem textF_len {n : Int} (_ : -9223372036854775808 ≤ n ∧ n ≤ 9223372036854775807) : (textF n).length ≤ 21 := by
  have := decD_len n.natAbs
  unfold textF
  split <;> simp <;> omega
theorem nameL_len5 : ∀ s ∈ nameL, s.length ≤ 5 := by decide
theorem condL_len7 : ∀ s ∈ condL, s.length ≤ 7 := by decide
theorem opNm_len (op : Int) : (opNm op).length ≤ 5 := by
  unfold opNm
  rcases Nat.lt_or_ge (op - 4).toNat nameL.length with h | h
  · rw [List.getD, List.getElem?_eq_getElem h, Option.getD_some]; exact nameL_len5 _ (List.getElem_mem h)
  · rw [List.getD, List.getElem?_eq_none h]; simp
theorem condNm_len (op : Int) : (condNm op).length ≤ 7 := by
  unfold condNm
  rcases Nat.lt_or_ge (op - 1).toNat condL.length with h | h
  · rw [List.getD, List.getElem?_eq_getElem h, Option.getD_some]; exact condL_len7 _ (List.getElem_mem h)
  · rw [List.getD, List.getElem?_eq_none h]; simp
/-- What format can print. -/
inductive FmOk : Pt → Prop
  | var {v op imm iv : Int} {ks : List Pt} : 0 < v → v ≤ 100 → FmOk (.mk v op imm iv ks)
  | cst {v imm iv : Int} {ks : List Pt} : ¬ 0 < v → -9223372036854775808 ≤ imm → imm ≤ 9223372036854775807 → iv ≤ 100 → FmOk (.mk v 1 imm iv ks)
  | app {v op imm iv : Int} {ks : List Pt} : ¬ 0 < v → 4 ≤ op → op < 32 → -9223372036854775808 ≤ imm → imm ≤ 9223372036854775807 → iv ≤ 100 → (∀ k ∈ ks, FmOk k) → FmOk (.mk v op imm iv ks)
mutual
theorem fmtF_len : ∀ p : Pt, FmOk p → (fmtF p).length + 1 ≤ 30 * p.size
  | .mk v op imm iv ks, h => by
    have hs : (Pt.mk v op imm iv ks).size = 1 + Pt.sizeL ks := by rw [Pt.size_eq]; rfl
    rw [hs]
    unfold fmtF
    cases h with
    | var h1 h2 => rw [if_pos h1]; simp [vnF]; omega
    | cst h1 h2 h3 h4 =>
      rw [if_neg h1, if_pos rfl]
      have := textF_len ⟨h2, h3⟩
      split <;> simp [inF] <;> omega
    | app h1 h2 h3 h4 h5 h6 h7 =>
      rw [if_neg h1, if_neg (by omega)]
      have e1 := fmtL_len ks h7
      have e2 := opNm_len op
      have e3 := textF_len ⟨h4, h5⟩
      simp only [List.length_append, List.length_singleton]
      have e4 : (if 0 < iv then 46 :: inF iv else if immOp op = true then 46 :: textF imm else ([] : Bs)).length ≤ 22 := by
        split
        · simp [inF]
        · split <;> simp <;> omega
      omega
theorem fmtL_len : ∀ ks : List Pt, (∀ k ∈ ks, FmOk k) → (fmtL ks).length ≤ 30 * Pt.sizeL ks
  | [], _ => by simp [fmtL, Pt.sizeL]
  | k :: ks, h => by
    have e1 := fmtF_len k (h k List.mem_cons_self)
    have e2 := fmtL_len ks (fun q hq => h q (List.mem_cons_of_mem _ hq))
    simp only [fmtL, Pt.sizeL, List.cons_append, List.length_cons, List.length_append]
    omega
end
theorem fmtL_snoc (k : Pt) : ∀ ks : List Pt, fmtL (ks ++ [k]) = fmtL ks ++ (32 :: fmtF k)
  | [] => by simp [fmtL]
  | q :: ks => by simp [fmtL, fmtL_snoc k ks]
end Go.Proofs.Ytblkgjdhaibhgaa
