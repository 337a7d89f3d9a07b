/-
  Equal patterns and rules.
-/
import Derived.Test.YtblkgjdhaibhgaaRulV
namespace Go.Proofs.Ytblkgjdhaibhgaa
open Go.RowKit

mutual
def ptE : Pt → Pt → Bool
  | .mk v op imm iv ks, q => decide (v = q.v ∧ op = q.op ∧ imm = q.imm ∧ iv = q.iv ∧ ks.length = q.kids.length) && ptEL ks q.kids
def ptEL : List Pt → List Pt → Bool
  | [], _ => true
  | k :: ks, ls => match ls with
    | [] => true
    | l :: ls => ptE k l && ptEL ks ls
end
theorem ptE_eq (p q : Pt) : ptE p q = (decide (p.v = q.v ∧ p.op = q.op ∧ p.imm = q.imm ∧ p.iv = q.iv ∧ p.kids.length = q.kids.length) && ptEL p.kids q.kids) := by
  cases p
  rw [ptE]
  rfl
theorem ptEL_of : ∀ {ks ls : List Pt}, (∀ i (h : i < ks.length) (h2 : i < ls.length), ptE ks[i] ls[i] = true) → ptEL ks ls = true
  | [], _, _ => by simp [ptEL]
  | k :: ks, [], _ => by simp [ptEL]
  | k :: ks, l :: ls, h => by
    simp only [ptEL, Bool.and_eq_true]
    exact ⟨h 0 (Nat.zero_lt_succ _) (Nat.zero_lt_succ _), ptEL_of fun i h1 h2 => h (i + 1) (Nat.succ_lt_succ h1) (Nat.succ_lt_succ h2)⟩
theorem ptEL_no : ∀ {ks ls : List Pt} {i : Nat} (h1 : i < ks.length) (h2 : i < ls.length), ptE ks[i] ls[i] = false → ptEL ks ls = false
  | k :: ks, l :: ls, 0, _, _, h => by
    simp only [ptEL, Bool.and_eq_false_iff]
    exact .inl h
  | k :: ks, l :: ls, i + 1, h1, h2, h => by
    simp only [ptEL, Bool.and_eq_false_iff]
    exact .inr (ptEL_no (Nat.lt_of_succ_lt_succ h1) (Nat.lt_of_succ_lt_succ h2) h)
theorem ptE_refl (p : Pt) : ptE p p = true := by
  induction p using Pt.ind with
  | h p ih =>
    rw [ptE_eq, Bool.and_eq_true]
    exact ⟨by simp, ptEL_of fun i h _ => ih _ (List.getElem_mem h)⟩
def rlE (r s : Rl) : Bool := decide (r.vars = s.vars ∧ r.imms = s.imms ∧ r.conds.length = s.conds.length) && ptE r.l s.l && ptE r.r s.r && decide (r.conds = s.conds)
theorem rlE_refl (r : Rl) : rlE r r = true := by simp [rlE, ptE_refl]
def rlsE : List Rl → List Rl → Bool
  | [], [] => true
  | r :: rs, s :: ss => decide (r.name = s.name) && rlE r s && rlsE rs ss
  | _, _ => false
theorem rlsE_refl : ∀ l : List Rl, rlsE l l = true
  | [] => rfl
  | r :: l => by simp [rlsE, rlE_refl, rlsE_refl l]
theorem rlsE_len : ∀ {a b : List Rl}, rlsE a b = true → a.length = b.length
  | [], [], _ => rfl
  | r :: rs, s :: ss, h => by
    simp only [rlsE, Bool.and_eq_true] at h
    simp [rlsE_len h.2]
theorem rlsE_of : ∀ {a b : List Rl}, a.length = b.length → (∀ i (h : i < a.length) (h2 : i < b.length), a[i].name = b[i].name ∧ rlE a[i] b[i] = true) → rlsE a b = true
  | [], [], _, _ => rfl
  | [], _ :: _, h, _ => by simp at h
  | _ :: _, [], h, _ => by simp at h
  | r :: rs, s :: ss, h, k => by
    simp only [rlsE, Bool.and_eq_true, decide_eq_true_eq]
    exact ⟨k 0 (Nat.zero_lt_succ _) (Nat.zero_lt_succ _), rlsE_of (by simpa using h) fun i h1 h2 => k (i + 1) (Nat.succ_lt_succ h1) (Nat.succ_lt_succ h2)⟩
theorem rlsE_no : ∀ {a b : List Rl} {i : Nat} (h1 : i < a.length) (h2 : i < b.length), (¬ a[i].name = b[i].name ∨ rlE a[i] b[i] = false) → rlsE a b = false
  | r :: rs, s :: ss, 0, _, _, h => by
    rcases h with h | h
    · have h : ¬ r.name = s.name := h
      simp [rlsE, h]
    · have h : rlE r s = false := h
      simp [rlsE, h]
  | r :: rs, s :: ss, i + 1, h1, h2, h => by
    have := rlsE_no (a := rs) (b := ss) (i := i) (Nat.lt_of_succ_lt_succ h1) (Nat.lt_of_succ_lt_succ h2) h
    simp [rlsE, this]
theorem CondsV.take {w : World} {F : Nat → Prop} {A : Option Addr} {cs : List Cd} (h : CondsV w F A cs) {i : Nat} (hi : i < cs.length) : ∃ b o, A = some ⟨b, o, none⟩ ∧ b < w.heap.size ∧ w.cell? ⟨b, o + i * 4, none⟩ = some (.int .i64 cs[i].kind) ∧ w.cell? ⟨b, o + i * 4 + 1, none⟩ = some (.int .i64 cs[i].a) ∧ w.cell? ⟨b, o + i * 4 + 2, none⟩ = some (.int .i64 cs[i].b) ∧ w.cell? ⟨b, o + i * 4 + 3, none⟩ = some (.int .i64 cs[i].n) := by
  obtain ⟨b, o, h1, _, h2, h3⟩ := h.at_ hi
  exact ⟨b, o, h1, h2, h3⟩
end Go.Proofs.Ytblkgjdhaibhgaa
