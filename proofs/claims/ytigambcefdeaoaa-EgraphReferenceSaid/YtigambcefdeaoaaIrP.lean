/-
  Sorts as package ir finds them, in plain Lean: they are the reference's. No program in sight.
-/
import Derived.Test.YtigambcefdeaoaaCong
namespace Go.Proofs.Ytigambcefdeaoaa

theorem getD_lt {α : Type} {l : List α} {i : Nat} {d : α} (h : i < l.length) : l.getD i d = l[i] := by simp [List.getD, h]
def matchF (s want : List Int) : Bool := decide (s = want.take s.length)
def opSortsF (op : Int) : List Int := if op = 22 then [1, 1, 1] else if op = 23 ∨ op = 27 ∨ op = 29 then [2, 1] else if op = 28 then [2, 1, 1] else if op = 24 then [2] else if op = 25 then [3] else [1, 1]
def loopSortsF (k : Nat) : List Int := ((List.replicate k (1 : Int)).set 0 2).set ((k - 1) / 2 + 1) 2
def validOpsF (op : Int) (s : List Int) : Bool :=
  if (arityF op).2 = false ∨ (0 ≤ (arityF op).1 ∧ (arityF op).1 ≠ s.length) then false
  else if op = 31 then decide (3 ≤ s.length ∧ s.length % 2 = 1 ∧ (s.length - 1) / 2 ≤ 16 ∧ s = loopSortsF s.length)
  else if op = 30 then decide (1 ≤ s.length ∧ s.length ≤ 7 ∧ s.getD 0 0 = 2 ∧ allOne (s.drop 1) = true)
  else if op = 22 ∧ s.getD 1 0 = 2 then decide (s.getD 0 0 = 1 ∧ s.getD 2 0 = 2)
  else matchF s (opSortsF op)
def mostF (L : List Nd) (op : Int) (kids : List Int) : Int :=
  if op = 2 then 5 else if op = 3 then 255 else if op = 23 ∨ op = 28 then 3 else if op = 30 then 7 else if op = 31 then 15
  else if op = 25 then (((L.getD (kids.getD 0 0).toNat ⟨0, 0, []⟩).kids.length : Int) - 1).tdiv 2 - 1 else 0
def irImmF (L : List Nd) (op imm : Int) (kids : List Int) : Bool :=
  if op = 1 then true else if op = 27 then decide (1 ≤ imm ∧ imm ≤ 1000016) else decide (0 ≤ imm ∧ imm ≤ mostF L op kids)
def resSortF (op imm : Int) (s : List Int) : Int :=
  if op = 31 then 3 else if op = 26 ∨ op = 27 ∨ op = 28 ∨ op = 29 ∨ op = 30 then 2 else if op = 22 then s.getD 1 0
  else if op = 3 then (if imm.tmod 16 = 0 then 2 else 1) else if op = 25 then (if imm = 0 then 2 else 1) else 1
def irSortF (L : List Nd) (op imm : Int) (kids s : List Int) : Int :=
  if validOpsF op s = true ∧ irImmF L op imm kids = true then resSortF op imm s else 0

theorem len1 {s : List Int} (h : s.length = 1) : ∃ a, s = [a] := by
  match s, h with
  | [a], _ => exact ⟨a, rfl⟩
theorem len2 {s : List Int} (h : s.length = 2) : ∃ a b, s = [a, b] := by
  match s, h with
  | [a, b], _ => exact ⟨a, b, rfl⟩
theorem len3 {s : List Int} (h : s.length = 3) : ∃ a b c, s = [a, b, c] := by
  match s, h with
  | [a, b, c], _ => exact ⟨a, b, c, rfl⟩

theorem loopSorts_iff (s : List Int) (v : Nat) (hv : 1 ≤ v) (hl : s.length = 2 * v + 1) :
    s = loopSortsF s.length ↔ s.getD 0 0 = 2 ∧ allOne ((s.drop 1).take v) = true ∧ s.getD (v + 1) 0 = 2 ∧ allOne (s.drop (v + 2)) = true := by
  have hx : (s.length - 1) / 2 = v := by omega
  have hw : ∀ i (h : i < (loopSortsF s.length).length), (loopSortsF s.length)[i] = if i = v + 1 then 2 else if i = 0 then 2 else 1 := by
    intro i h
    simp only [loopSortsF, hx, List.getElem_set, List.getElem_replicate]
    by_cases a : i = v + 1
    · simp [a]
    · by_cases b : i = 0
      · simp [b]
      · simp only [a, b, if_false, if_neg (fun h : v + 1 = i => a h.symm), if_neg (fun h : 0 = i => b h.symm)]
  have hll : (loopSortsF s.length).length = s.length := by simp [loopSortsF]
  constructor
  · intro h
    have hg : ∀ i (hi : i < s.length), s[i] = if i = v + 1 then 2 else if i = 0 then 2 else 1 := by
      intro i hi
      have := List.getElem_of_eq h hi
      rw [this, hw]
    refine ⟨?_, ?_, ?_, ?_⟩
    · rw [List.getD, List.getElem?_eq_getElem (by omega)]
      simp only [Option.getD_some]
      rw [hg, if_neg (by omega), if_pos rfl]
    · unfold allOne
      rw [List.all_eq_true]
      intro x hx
      obtain ⟨i, hi, rfl⟩ := List.mem_iff_getElem.1 hx
      simp at hi ⊢
      rw [hg, if_neg (by omega), if_neg (by omega)]
    · rw [List.getD, List.getElem?_eq_getElem (by omega)]
      simp only [Option.getD_some]
      rw [hg, if_pos rfl]
    · unfold allOne
      rw [List.all_eq_true]
      intro x hx
      obtain ⟨i, hi, rfl⟩ := List.mem_iff_getElem.1 hx
      simp at hi ⊢
      rw [hg, if_neg (by omega), if_neg (by omega)]
  · rintro ⟨h1, h2, h3, h4⟩
    apply List.ext_getElem hll.symm
    intro i hi hi'
    rw [hw]
    unfold allOne at h2 h4
    rw [List.all_eq_true] at h2 h4
    split
    · rename_i e; subst e
      rw [List.getD, List.getElem?_eq_getElem hi] at h3
      simpa using h3
    · split
      · rename_i e; subst e
        rw [List.getD, List.getElem?_eq_getElem hi] at h1
        simpa using h1
      · rename_i e1 e2
        rcases Nat.lt_or_ge i (v + 1) with q | q
        · have := h2 s[i] (List.mem_iff_getElem.2 ⟨i - 1, by simp; omega, by simp; congr 1; omega⟩)
          simpa using this
        · have := h4 s[i] (List.mem_iff_getElem.2 ⟨i - (v + 2), by simp; omega, by simp; congr 1; omega⟩)
          simpa using this

/-- The sort of a node, given its operands' sorts, is the reference's. -/
theorem irSort_eq (L : List Nd) (op imm : Int) (kids s : List Int) (hl : s.length = kids.length) (hs : ∀ x ∈ s, 1 ≤ x ∧ x ≤ 3)
    (hodd : op = 25 → s.getD 0 0 = 3 → (L.getD (kids.getD 0 0).toNat ⟨0, 0, []⟩).kids.length % 2 = 1 ∧ (L.getD (kids.getD 0 0).toNat ⟨0, 0, []⟩).kids.length ≤ 33) : irSortF L op imm kids s = nodeSortF L op imm kids s := by
  by_cases hr : 1 ≤ op ∧ op ≤ 31
  · by_cases h31 : op = 31
    · subst h31
      unfold irSortF nodeSortF
      have hb : badNode 31 imm kids = !(irImmF L 31 imm kids) := by
        simp [badNode, arityF, irImmF, mostF, validImmF, maxImmF]
      rw [hb]
      cases irImmF L 31 imm kids with
      | false => simp
      | true =>
        simp only [and_true, Bool.not_true]
        simp only [validOpsF, arityF, resSortF, goodSortF, sortIfF]
        by_cases ho : s.length % 2 = 1 ∧ 1 ≤ s.length / 2
        · have := loopSorts_iff s (s.length / 2) ho.2 (by omega)
          simp [this, ho.1]
          by_cases h16 : s.length / 2 ≤ 16
          · have e3 : 3 ≤ s.length := by omega
            have e4 : (s.length - 1) / 2 ≤ 16 := by omega
            simp [h16, ho.2, e3, e4]
          · simp [h16]; omega
        · have e1 : ¬ (3 ≤ s.length ∧ s.length % 2 = 1) := by omega
          simp
          rw [if_neg (by rintro ⟨a, b, _⟩; exact e1 ⟨a, b⟩), if_neg (by rintro ⟨a, b, _⟩; exact ho ⟨a, by omega⟩)]
    by_cases h30 : op = 30
    · subst h30
      unfold irSortF nodeSortF
      have hb : badNode 30 imm kids = !(irImmF L 30 imm kids) := by
        simp [badNode, arityF, irImmF, mostF, validImmF, maxImmF]
      rw [hb]
      cases irImmF L 30 imm kids with
      | false => simp
      | true => simp [validOpsF, arityF, resSortF, goodSortF, sortIfF]
    have e : op = 1 ∨ op = 2 ∨ op = 3 ∨ op = 26 ∨ (op = 4 ∨ op = 5 ∨ op = 6 ∨ op = 7 ∨ op = 8 ∨ op = 9 ∨ op = 10 ∨ op = 11 ∨ op = 12 ∨ op = 13 ∨ op = 14 ∨ op = 15 ∨ op = 16 ∨ op = 17 ∨ op = 18 ∨ op = 19) ∨ op = 20 ∨ op = 21 ∨ op = 22 ∨ op = 23 ∨ op = 24 ∨ op = 25 ∨ op = 27 ∨ op = 28 ∨ op = 29 := by omega
    by_cases ha : (arityF op).1 = s.length
    · rcases e with rfl | rfl | rfl | rfl | e | rfl | rfl | rfl | rfl | rfl | rfl | rfl | rfl | rfl
      case inr.inr.inr.inr.inl =>
        have ha2 : (arityF op).1 = 2 := by rcases e with rfl | rfl | rfl | rfl | rfl | rfl | rfl | rfl | rfl | rfl | rfl | rfl | rfl | rfl | rfl | rfl <;> rfl
        obtain ⟨a, b, rfl⟩ := len2 (s := s) (by omega)
        have hk2 : kids.length = 2 := by simpa using hl.symm
        rcases e with rfl | rfl | rfl | rfl | rfl | rfl | rfl | rfl | rfl | rfl | rfl | rfl | rfl | rfl | rfl | rfl <;>
          (simp [irSortF, nodeSortF, badNode, validOpsF, arityF, irImmF, mostF, validImmF, maxImmF, resSortF, goodSortF, sortIfF, allOne, matchF, opSortsF, hk2]
           by_cases hi : imm = 0
           · simp [hi]
           · have : ¬ (0 ≤ imm ∧ imm ≤ 0) := by omega
             simp [hi]; omega)
      case inl =>
        obtain rfl : s = [] := List.eq_nil_of_length_eq_zero (by simp [arityF] at ha; simpa using ha.symm)
        have hk : kids.length = 0 := by simpa using hl.symm
        simp [irSortF, nodeSortF, badNode, validOpsF, arityF, irImmF, validImmF, resSortF, goodSortF, sortIfF, allOne, matchF, opSortsF, hk]
      case inr.inl =>
        obtain rfl : s = [] := List.eq_nil_of_length_eq_zero (by simp [arityF] at ha; simpa using ha.symm)
        have hk : kids.length = 0 := by simpa using hl.symm
        simp [irSortF, nodeSortF, badNode, validOpsF, arityF, irImmF, mostF, validImmF, maxImmF, resSortF, goodSortF, sortIfF, allOne, matchF, opSortsF, hk]
        (repeat' split) <;> first | rfl | omega
      case inr.inr.inl =>
        obtain rfl : s = [] := List.eq_nil_of_length_eq_zero (by simp [arityF] at ha; simpa using ha.symm)
        have hk : kids.length = 0 := by simpa using hl.symm
        simp [irSortF, nodeSortF, badNode, validOpsF, arityF, irImmF, mostF, validImmF, maxImmF, resSortF, goodSortF, matchF, opSortsF, hk]
        (repeat' split) <;> first | rfl | omega
      case inr.inr.inr.inl =>
        obtain rfl : s = [] := List.eq_nil_of_length_eq_zero (by simp [arityF] at ha; simpa using ha.symm)
        have hk : kids.length = 0 := by simpa using hl.symm
        simp [irSortF, nodeSortF, badNode, validOpsF, arityF, irImmF, mostF, validImmF, maxImmF, resSortF, goodSortF, matchF, opSortsF, hk]
        (repeat' split) <;> first | rfl | omega
      case inr.inr.inr.inr.inr.inl | inr.inr.inr.inr.inr.inr.inl | inr.inr.inr.inr.inr.inr.inr.inr.inr.inl =>
        all_goals
          obtain ⟨a, rfl⟩ := len1 (s := s) (by simp [arityF] at ha; omega)
          have hk : kids.length = 1 := by simpa using hl.symm
          simp [irSortF, nodeSortF, badNode, validOpsF, arityF, irImmF, mostF, validImmF, maxImmF, resSortF, goodSortF, sortIfF, allOne, matchF, opSortsF, hk]
          (repeat' split) <;> first | rfl | omega
      case inr.inr.inr.inr.inr.inr.inr.inl =>
        obtain ⟨a, b, c, rfl⟩ := len3 (s := s) (by simp [arityF] at ha; omega)
        have hk : kids.length = 3 := by simpa using hl.symm
        have h1 := hs a (by simp)
        have h2 := hs b (by simp)
        have h3 := hs c (by simp)
        simp [irSortF, nodeSortF, badNode, validOpsF, arityF, irImmF, mostF, validImmF, maxImmF, resSortF, goodSortF, matchF, opSortsF, hk]
        (repeat' split) <;> simp_all <;> omega
      case inr.inr.inr.inr.inr.inr.inr.inr.inr.inr.inl =>
        obtain ⟨a, rfl⟩ := len1 (s := s) (by simp [arityF] at ha; omega)
        obtain ⟨q, rfl⟩ := len1 (s := kids) (by simpa using hl.symm)
        have ho := hodd rfl
        simp at ho
        simp [irSortF, nodeSortF, badNode, validOpsF, arityF, irImmF, mostF, validImmF, maxImmF, resSortF, goodSortF, sortIfF, matchF, opSortsF]
        generalize (L[q.toNat]?.getD ⟨0, 0, []⟩).kids.length = n at *
        by_cases h3 : a = 3
        · have := ho h3
          have e1 : ((n : Int) - 1).tdiv 2 = (n : Int) / 2 := by rw [Int.tdiv_eq_ediv_of_nonneg (by omega)]; omega
          simp only [h3, true_and, not_true, false_or, e1]
          (repeat' split) <;> first | rfl | omega
        · simp [h3]
      all_goals
        first
        | (obtain ⟨a, b, rfl⟩ := len2 (s := s) (by simp [arityF] at ha; omega)
           have hk : kids.length = 2 := by simpa using hl.symm
           simp [irSortF, nodeSortF, badNode, validOpsF, arityF, irImmF, mostF, validImmF, maxImmF, resSortF, goodSortF, sortIfF, matchF, opSortsF, hk]
           (repeat' split) <;> first | rfl | omega)
        | (obtain ⟨a, b, c, rfl⟩ := len3 (s := s) (by simp [arityF] at ha; omega)
           have hk : kids.length = 3 := by simpa using hl.symm
           simp [irSortF, nodeSortF, badNode, validOpsF, arityF, irImmF, mostF, validImmF, maxImmF, resSortF, goodSortF, sortIfF, matchF, opSortsF, hk]
           (repeat' split) <;> first | rfl | omega)
    · have hf : validOpsF op s = false := by
        unfold validOpsF
        rw [if_pos]
        right
        refine ⟨?_, ha⟩
        rcases e with rfl | rfl | rfl | rfl | e | rfl | rfl | rfl | rfl | rfl | rfl | rfl | rfl | rfl <;> first | decide | (rcases e with rfl | rfl | rfl | rfl | rfl | rfl | rfl | rfl | rfl | rfl | rfl | rfl | rfl | rfl | rfl | rfl <;> decide)
      have hb : badNode op imm kids = true := by
        unfold badNode
        have h0 : 0 ≤ (arityF op).1 := by
          rcases e with rfl | rfl | rfl | rfl | e | rfl | rfl | rfl | rfl | rfl | rfl | rfl | rfl | rfl <;> first | decide | (rcases e with rfl | rfl | rfl | rfl | rfl | rfl | rfl | rfl | rfl | rfl | rfl | rfl | rfl | rfl | rfl | rfl <;> decide)
        have h1 : (kids.length : Int) ≠ (arityF op).1 := by rw [← hl]; exact fun h => ha h.symm
        simp [h0, h1]
      simp [irSortF, nodeSortF, hf, hb]
  · have hf : (arityF op).2 = false := by unfold arityF; (repeat' split) <;> first | rfl | omega
    simp [irSortF, nodeSortF, badNode, validOpsF, hf]
end Go.Proofs.Ytigambcefdeaoaa
