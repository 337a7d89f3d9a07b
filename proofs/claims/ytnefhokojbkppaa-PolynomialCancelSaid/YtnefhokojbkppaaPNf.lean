/-
  Normal forms of polynomials, in plain terms: sorted, no zero coefficient; two that are equal modulo 2^64 are the same list. No condition of its own.
-/
import Derived.Test.YtnefhokojbkppaaPNrm
import Derived.Test.YtnefhokojbkppaaSortL
namespace Go.Proofs.Ytnefhokojbkppaa
open Go.RowKit

structure NF (n : Nat) (l : PL) : Prop where
  srt : l.Pairwise fun a b => a.1 < b.1
  ok : ∀ t ∈ l, t.1.length = n ∧ 0 < t.2 ∧ t.2 < 18446744073709551616
theorem coef_cons (t : Mon × Int) (l : PL) (x : Mon) : coef (t :: l) x = (if t.1 = x then t.2 else 0) + coef l x := rfl
theorem coef_gt {l : PL} {x : Mon} (h : ∀ t ∈ l, x < t.1) : coef l x = 0 := lsum_zero _ _ fun t ht => if_neg fun q => by
  have := h t ht
  rw [q] at this
  exact List.lt_irrefl _ this
theorem NF.uniq {n : Nat} : ∀ {a b : PL}, NF n a → NF n b → Eqv a b → a = b
  | [], [], _, _, _ => rfl
  | [], t :: b, _, hb, h => by
    have h1 := h t.1
    have h2 := List.pairwise_cons.1 hb.srt
    rw [coef_nil, coef_cons, if_pos rfl, coef_gt h2.1] at h1
    have := hb.ok t (by simp)
    omega
  | t :: a, [], ha, _, h => by
    have h1 := h t.1
    have h2 := List.pairwise_cons.1 ha.srt
    rw [coef_nil, coef_cons, if_pos rfl, coef_gt h2.1] at h1
    have := ha.ok t (by simp)
    omega
  | s :: a, t :: b, ha, hb, h => by
    have p1 := List.pairwise_cons.1 ha.srt
    have p2 := List.pairwise_cons.1 hb.srt
    have o1 := ha.ok s (by simp)
    have o2 := hb.ok t (by simp)
    have hk : s.1 = t.1 := by
      by_cases q1 : s.1 < t.1
      · exfalso
        have h1 := h s.1
        rw [coef_cons, if_pos rfl, coef_gt p1.1, coef_gt (l := t :: b) (fun x hx => by
          rcases List.mem_cons.1 hx with rfl | hx
          · exact q1
          · exact List.lt_trans q1 (p2.1 x hx))] at h1
        omega
      · by_cases q2 : t.1 < s.1
        · exfalso
          have h1 := h t.1
          rw [coef_cons (t := t), if_pos rfl, coef_gt p2.1, coef_gt (l := s :: a) (fun x hx => by
            rcases List.mem_cons.1 hx with rfl | hx
            · exact q2
            · exact List.lt_trans q2 (p1.1 x hx))] at h1
          omega
        · exact List.le_antisymm q2 q1
    have hc : s.2 = t.2 := by
      have h1 := h s.1
      rw [coef_cons, if_pos rfl, coef_gt p1.1, coef_cons, if_pos hk.symm, hk, coef_gt p2.1] at h1
      omega
    have hst : s = t := Prod.ext hk hc
    subst hst
    rw [NF.uniq (a := a) (b := b) ⟨p1.2, fun x hx => ha.ok x (by simp [hx])⟩ ⟨p2.2, fun x hx => hb.ok x (by simp [hx])⟩ (fun x => by
      have := h x
      rw [coef_cons, coef_cons] at this
      omega)]
theorem monSort_perm (l : List Mon) : (monSort l).Perm l := List.mergeSort_perm l _
theorem monSort_sorted (l : List Mon) : (monSort l).Pairwise fun a b => a ≤ b := by
  have h := List.pairwise_mergeSort (le := fun x y : Mon => decide (x ≤ y)) (fun a b c h1 h2 => by simp only [decide_eq_true_eq] at *; exact List.le_trans h1 h2) (fun a b => by simp only [Bool.or_eq_true, decide_eq_true_eq]; exact List.le_total a b) l
  exact h.imp fun h => by simpa using h
theorem monSort_lt {l : List Mon} (h : l.Nodup) : (monSort l).Pairwise fun a b => a < b := by
  have h1 := monSort_sorted l
  have h2 : (monSort l).Nodup := (monSort_perm l).nodup_iff.2 h
  refine (h1.and h2).imp fun {x y} ⟨a, b⟩ => ?_
  rcases Decidable.em (x < y) with q | q
  · exact q
  · exact absurd (List.le_antisymm a q) b
theorem coef_nodup : ∀ {ks : List Mon} {f : Mon → Int} {x : Mon}, ks.Nodup → coef (ks.map fun k => (k, f k)) x = if x ∈ ks then f x else 0
  | [], _, _, _ => rfl
  | k :: ks, f, x, h => by
    have h2 := List.nodup_cons.1 h
    rw [List.map_cons, coef_cons, coef_nodup h2.2]
    by_cases q : k = x
    · subst q
      rw [if_pos rfl, if_neg h2.1, if_pos (by simp)]; simp
    · rw [if_neg q]
      by_cases r : x ∈ ks
      · rw [if_pos r, if_pos (by simp [r])]; simp
      · rw [if_neg r, if_neg (by simp [r, Ne.symm q])]; simp
/-- The keys with a coefficient, sorted, are the normal form. -/
theorem NF.of_keys {n : Nat} {l : PL} {ks : List Mon} {f : Mon → Int} (hk : ks.Nodup) (h1 : ∀ k ∈ ks, k.length = n) (hf : ∀ k, f k = coef l k % 18446744073709551616) (h2 : ∀ k, k ∈ ks ↔ f k ≠ 0) :
    NF n ((monSort ks).map fun k => (k, f k)) ∧ Eqv ((monSort ks).map fun k => (k, f k)) l := by
  refine ⟨⟨List.pairwise_map.2 (monSort_lt hk), fun t ht => ?_⟩, fun x => ?_⟩
  · obtain ⟨k, hk2, rfl⟩ := List.mem_map.1 ht
    have hm : k ∈ ks := (monSort_perm ks).mem_iff.1 hk2
    have := (h2 k).1 hm
    have := hf k
    exact ⟨h1 k hm, by simp only []; omega, by simp only []; omega⟩
  · rw [coef_nodup ((monSort_perm ks).nodup_iff.2 hk)]
    have := h2 x
    have hm := (monSort_perm ks).mem_iff (a := x)
    have := hf x
    by_cases q : x ∈ monSort ks
    · rw [if_pos q]; omega
    · rw [if_neg q]
      have : f x = 0 := Decidable.byContradiction fun r => q (hm.2 ((h2 x).2 r))
      omega
theorem coef_ne_mem {l : PL} {x : Mon} (h : coef l x ≠ 0) : ∃ t ∈ l, t.1 = x := by
  refine Decidable.byContradiction fun q => h (lsum_zero _ _ fun t ht => if_neg fun e => q ⟨t, ht, e⟩)
/-- Every monomial of a normal form is one of the terms. -/
theorem NF.mem {n : Nat} {r l : PL} (h : NF n r) (e : Eqv r l) : ∀ t ∈ r, ∃ s ∈ l, s.1 = t.1 := by
  intro t ht
  have hnd : (r.map (·.1)).Nodup := List.pairwise_map.2 (h.srt.imp fun q e => by rw [e] at q; exact List.lt_irrefl _ q)
  have hc : coef r t.1 = t.2 := by
    clear e h
    induction r with
    | nil => simp at ht
    | cons s r ih =>
      have h2 := List.nodup_cons.1 hnd
      rw [coef_cons]
      rcases List.mem_cons.1 ht with rfl | ht
      · rw [if_pos rfl]
        have : coef r t.1 = 0 := lsum_zero _ _ fun u hu => if_neg fun q => h2.1 (List.mem_map.2 ⟨u, hu, q⟩)
        omega
      · rw [if_neg (fun q => h2.1 (List.mem_map.2 ⟨t, ht, q.symm⟩)), ih ht h2.2]; simp
  have h1 := e t.1
  have h2 := h.ok t ht
  rw [hc] at h1
  exact coef_ne_mem (fun q => by rw [q] at h1; omega)
end Go.Proofs.Ytnefhokojbkppaa
