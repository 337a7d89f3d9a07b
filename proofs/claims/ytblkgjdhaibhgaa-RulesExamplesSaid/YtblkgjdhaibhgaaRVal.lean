/-
  What the reference's Valid of patterns does: the small functions, Size.
-/
import Derived.Test.YtblkgjdhaibhgaaPVal3
namespace Go.Proofs.Ytblkgjdhaibhgaa
open Go.RowKit

def allowedF (op : Int) : Bool := decide (op = 1 ∨ (4 ≤ op ∧ op ≤ 24) ∨ op = 27 ∨ op = 28 ∨ op = 29)
theorem allowed_ok (op : Int) : allowedF op = (oSortsF op).2.2 := by
  unfold allowedF oSortsF
  rw [Bool.eq_iff_iff, decide_eq_true_iff]
  (repeat' split) <;> simp <;> omega
theorem allowed_parts {op : Int} (h : (oSortsF op).2.2 = true) : (arityF op).1 = ((oSortsF op).1.length : Int) ∧ pSortF op = (oSortsF op).2.1 ∧ ∀ i (hi : i < (oSortsF op).1.length), operandSortF op i = (oSortsF op).1[i] := by
  have ho : op = 1 ∨ op = 23 ∨ op = 24 ∨ op = 27 ∨ op = 29 ∨ op = 28 ∨ op = 20 ∨ op = 21 ∨ op = 22 ∨ (4 ≤ op ∧ op ≤ 19) := by
    rw [← allowed_ok] at h
    simp only [allowedF, decide_eq_true_iff] at h
    omega
  have fin : ∀ (l : List Int) (x y : Int) (b : Bool), oSortsF op = (l, y, b) → (arityF op).1 = (l.length : Int) → pSortF op = y → (∀ i (hi : i < l.length), operandSortF op i = l[i]) → (arityF op).1 = ((oSortsF op).1.length : Int) ∧ pSortF op = (oSortsF op).2.1 ∧ ∀ i (hi : i < (oSortsF op).1.length), operandSortF op i = (oSortsF op).1[i] := fun l x y b e h1 h2 h3 => by
    refine ⟨by rw [e]; exact h1, by rw [e]; exact h2, ?_⟩
    rw [e]; exact h3
  rcases ho with rfl | rfl | rfl | rfl | rfl | rfl | rfl | rfl | rfl | hr
  · exact fin [] 0 1 true rfl rfl rfl (fun i hi => by simp at hi)
  · exact fin [2, 1] 0 1 true rfl rfl rfl (fun i hi => by match i, hi with | 0, _ => rfl | 1, _ => rfl)
  · exact fin [2] 0 1 true rfl rfl rfl (fun i hi => by match i, hi with | 0, _ => rfl)
  · exact fin [2, 1] 0 2 true rfl rfl rfl (fun i hi => by match i, hi with | 0, _ => rfl | 1, _ => rfl)
  · exact fin [2, 1] 0 2 true rfl rfl rfl (fun i hi => by match i, hi with | 0, _ => rfl | 1, _ => rfl)
  · exact fin [2, 1, 1] 0 2 true rfl rfl rfl (fun i hi => by match i, hi with | 0, _ => rfl | 1, _ => rfl | 2, _ => rfl)
  · exact fin [1] 0 1 true rfl rfl rfl (fun i hi => by match i, hi with | 0, _ => rfl)
  · exact fin [1] 0 1 true rfl rfl rfl (fun i hi => by match i, hi with | 0, _ => rfl)
  · exact fin [1, 1, 1] 0 1 true rfl rfl rfl (fun i hi => by match i, hi with | 0, _ => rfl | 1, _ => rfl | 2, _ => rfl)
  · have hp : pSortF op = 1 := by unfold pSortF; rw [if_neg (by omega)]
    refine fin [1, 1] 0 1 true ?_ ?_ hp (fun i hi => ?_)
    · unfold oSortsF
      rw [if_neg (by omega), if_neg (by omega), if_neg (by omega), if_neg (by omega), if_neg (by omega), if_pos (by omega), if_neg (by omega), if_neg (by omega)]
    · unfold arityF
      rw [if_neg (by omega), if_neg (by omega), if_pos (by omega)]; rfl
    · have : operandSortF op i = 1 := by unfold operandSortF; rw [hp, if_neg (by omega)]
      rw [this]
      match i, hi with | 0, _ => rfl | 1, _ => rfl
theorem imm_ok {p : Pt} {m : Int} (hm : 0 ≤ m) (h : (oSortsF p.op).2.2 = true) :
    pImmF p m = (!(decide (p.iv < 0) || decide (p.iv > m)) && !(decide (p.iv > 0) && (!decide (p.imm = 0) || !hasImmF p.op) || decide (p.iv = 0) && !validImmF p.op p.imm)) := by
  have ho : p.op = 1 ∨ p.op = 23 ∨ p.op = 24 ∨ p.op = 27 ∨ p.op = 29 ∨ p.op = 28 ∨ (4 ≤ p.op ∧ p.op ≤ 22) := by
    rw [← allowed_ok] at h
    simp only [allowedF, decide_eq_true_iff] at h
    omega
  obtain ⟨v, op, imm, iv, kids⟩ := p
  have ho : op = 1 ∨ op = 23 ∨ op = 24 ∨ op = 27 ∨ op = 29 ∨ op = 28 ∨ (4 ≤ op ∧ op ≤ 22) := ho
  show _ = (!(decide (iv < 0) || decide (iv > m)) && !(decide (iv > 0) && (!decide (imm = 0) || !hasImmF op) || decide (iv = 0) && !validImmF op imm))
  by_cases h0 : iv = 0
  · have e : pImmF (.mk v op imm iv kids) m = (if op = 23 ∨ op = 28 then decide (0 ≤ imm ∧ imm < 4) else if op = 27 then decide (1 ≤ imm ∧ imm ≤ 1000016) else decide (op = 1 ∨ imm = 0)) := if_neg (fun q => q h0)
    have e2 : validImmF op imm = (if op = 23 ∨ op = 28 then decide (0 ≤ imm ∧ imm < 4) else if op = 27 then decide (1 ≤ imm ∧ imm ≤ 1000016) else decide (op = 1 ∨ imm = 0)) := by
      unfold validImmF maxImmF
      rw [Bool.eq_iff_iff]
      (repeat' split) <;> simp <;> omega
    rw [e, e2]
    have a1 : decide (iv < 0) = false := decide_eq_false (by omega)
    have a2 : decide (iv > m) = false := decide_eq_false (by omega)
    have a3 : decide (iv > 0) = false := decide_eq_false (by omega)
    have a4 : decide (iv = 0) = true := decide_eq_true h0
    rw [a1, a2, a3, a4]
    simp
  · have e : pImmF (.mk v op imm iv kids) m = (hasImmF op && decide (imm = 0 ∧ 1 ≤ iv ∧ iv ≤ m)) := if_pos h0
    have a4 : decide (iv = 0) = false := decide_eq_false h0
    rw [e, a4]
    rw [Bool.eq_iff_iff]
    cases hasImmF op <;> by_cases h4 : 0 < iv <;> by_cases h2 : iv ≤ m <;> by_cases h3 : imm = 0 <;> simp [h4, h2, h3] <;> omega
theorem r15allowed_c (op : Int) (w : World) : Calls Try.prog 59 #[.int .i64 op] w fun e w' => e = .returned (.bool (allowedF op)) ∧ w = w' := by
  go_enter Try.func59, Try.ntmps59
  go_wp2
  all_goals
    go_ret
    refine ⟨?_, rfl⟩
    show Ending.returned (Value.bool _) = _
    congr 2
    unfold allowedF
    (try simp only [beq_iff_eq, beq_eq_false_iff_ne, ne_eq] at *)
    rw [Bool.eq_iff_iff]
    simp
    omega
theorem r15HasImm_c (op : Int) (w : World) : Calls Try.prog 58 #[.int .i64 op] w fun e w' => e = .returned (.bool (hasImmF op)) ∧ w = w' := by
  go_enter Try.func58, Try.ntmps58
  go_wp2
  all_goals
    go_ret
    refine ⟨?_, rfl⟩
    show Ending.returned (Value.bool _) = _
    congr 2
    unfold hasImmF
    (try simp only [beq_iff_eq, beq_eq_false_iff_ne, ne_eq] at *)
    rw [Bool.eq_iff_iff]
    simp
    omega
end Go.Proofs.Ytblkgjdhaibhgaa
