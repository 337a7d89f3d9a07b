/-
  The generated nodes, in plain Lean.
-/
import Derived.Test.YtlehiklgbladoaaSNode
namespace Go.Proofs.Ytlehiklgbladoaa

def baseN : List Nd := [⟨2, 0, []⟩, ⟨2, 1, []⟩, ⟨26, 0, []⟩]
def stateOps : List Int := [23, 27, 28, 29, 24]
def op1F (values : Bool) (x : Int) : Int := if values = false ∧ 5 < x % 9 then stateOps.getD ((x.tdiv 9) % 5).toNat 0 else 4 + x % 19
def op2F (values : Bool) (x : Int) : Int := if x % 11 = 0 then 1 else op1F values x
def imm2F (x : Int) : Int := if x % 11 = 0 then wordF (x.tdiv 11) x else 0
def seedsF (x : Int) : List Int := [x.tdiv 7, x.tdiv 101, x.tdiv 1009]
def kidsTo (out : List Nd) (op x : Int) (j : Nat) : List Int := (List.range j).map fun (i : Nat) => ofF out (operandSortF op i) ((seedsF x).getD i 0)
def imm3F (op x imm : Int) : Int := if op = 27 then 1 + (x.tdiv 5) % 2 else imm
def imm4F (op x imm : Int) : Int := if op = 23 ∨ op = 28 then (x.tdiv 5) % 2 else imm
def nodeOf (values : Bool) (out : List Nd) (x : Int) : Nd :=
  ⟨op2F values x, imm4F (op2F values x) x (imm3F (op2F values x) x (imm2F x)), kidsTo out (op2F values x) x (arityF (op2F values x)).1.toNat⟩
def nodesStep (values : Bool) (out : List Nd) (x : Int) : List Nd := if out.any (fun y => sameNd y (nodeOf values out x)) then out else out ++ [nodeOf values out x]
def nodesTo (values : Bool) (l : List Int) (k : Nat) : List Nd := (l.take k).foldl (nodesStep values) baseN
def nodesF (values : Bool) (l : List Int) : List Nd := nodesTo values l 14

theorem nodesTo_succ (values : Bool) (l : List Int) (k : Nat) (h : k < l.length) : nodesTo values l (k + 1) = nodesStep values (nodesTo values l k) l[k] := by
  unfold nodesTo
  rw [List.take_succ_eq_append_getElem h, List.foldl_append]
  rfl
theorem op1F_range (values : Bool) (x : Int) : 4 ≤ op1F values x ∧ op1F values x ≤ 29 := by
  unfold op1F
  split
  · have h1 := Int.emod_nonneg (x.tdiv 9) (show (5 : Int) ≠ 0 by omega)
    have h2 := Int.emod_lt_of_pos (x.tdiv 9) (show (0 : Int) < 5 by omega)
    generalize (x.tdiv 9) % 5 = y at *
    obtain ⟨n, rfl⟩ := Int.eq_ofNat_of_zero_le h1
    match n, h2 with
    | 0, _ | 1, _ | 2, _ | 3, _ | 4, _ => simp [stateOps]
    | n + 5, h => omega
  · have h1 := Int.emod_nonneg x (show (19 : Int) ≠ 0 by omega)
    have h2 := Int.emod_lt_of_pos x (show (0 : Int) < 19 by omega)
    omega
theorem op1F_ne (values : Bool) (x : Int) : op1F values x ≠ 25 ∧ op1F values x ≠ 26 := by
  unfold op1F
  split
  · have h1 := Int.emod_nonneg (x.tdiv 9) (show (5 : Int) ≠ 0 by omega)
    have h2 := Int.emod_lt_of_pos (x.tdiv 9) (show (0 : Int) < 5 by omega)
    generalize (x.tdiv 9) % 5 = y at *
    obtain ⟨n, rfl⟩ := Int.eq_ofNat_of_zero_le h1
    match n, h2 with
    | 0, _ | 1, _ | 2, _ | 3, _ | 4, _ => simp [stateOps]
    | n + 5, h => omega
  · have h1 := Int.emod_nonneg x (show (19 : Int) ≠ 0 by omega)
    have h2 := Int.emod_lt_of_pos x (show (0 : Int) < 19 by omega)
    omega
theorem op2F_range (values : Bool) (x : Int) : 1 ≤ op2F values x ∧ op2F values x ≤ 29 := by
  unfold op2F
  have := op1F_range values x
  split <;> omega
theorem arity_small (op : Int) (h1 : 1 ≤ op) (h2 : op ≤ 29) : 0 ≤ (arityF op).1 ∧ (arityF op).1 ≤ 3 ∧ (arityF op).2 = true := by
  unfold arityF
  (repeat' split) <;> first | (simp; done) | omega
theorem operandSort_cases (op k : Int) : operandSortF op k = 1 ∨ operandSortF op k = 2 := by unfold operandSortF; split <;> simp
theorem nodesStep_base (values : Bool) (out : List Nd) (x : Int) (h : ∃ r, out = baseN ++ r) : ∃ r, nodesStep values out x = baseN ++ r := by
  obtain ⟨r, rfl⟩ := h
  unfold nodesStep
  split
  · exact ⟨r, rfl⟩
  · exact ⟨r ++ [_], by rw [List.append_assoc]⟩
theorem nodesStep_len (values : Bool) (out : List Nd) (x : Int) : (nodesStep values out x).length ≤ out.length + 1 := by
  unfold nodesStep; split <;> simp
theorem foldl_inv {α β : Type} (P : α → Prop) (f : α → β → α) : ∀ (l : List β) (a : α), P a → (∀ a b, b ∈ l → P a → P (f a b)) → P (l.foldl f a)
  | [], a, h, _ => h
  | b :: l, a, h, hs => foldl_inv P f l (f a b) (hs a b (by simp) h) (fun a b hb => hs a b (by simp [hb]))
theorem nodesTo_base (values : Bool) (l : List Int) (k : Nat) : ∃ r, nodesTo values l k = baseN ++ r :=
  foldl_inv (fun out => ∃ r, out = baseN ++ r) _ _ _ ⟨[], by simp⟩ (fun a b _ h => nodesStep_base values a b h)
theorem nodesTo_len (values : Bool) (l : List Int) (k : Nat) : (nodesTo values l k).length ≤ 3 + k := by
  induction k with
  | zero => simp [nodesTo, baseN]
  | succ k ih =>
    by_cases h : k < l.length
    · rw [nodesTo_succ values l k h]
      have := nodesStep_len values (nodesTo values l k) l[k]
      omega
    · have : nodesTo values l (k + 1) = nodesTo values l k := by unfold nodesTo; rw [List.take_of_length_le (by omega), List.take_of_length_le (by omega)]
      rw [this]; omega
/-- The first three nodes have the sorts 1, 1, 2. -/
theorem sorts_base (r : List Nd) : sortsTo (baseN ++ r) 3 = [1, 1, 2] := by
  have g0 : (baseN ++ r).getD 0 ⟨0, 0, []⟩ = ⟨2, 0, []⟩ := rfl
  have g1 : (baseN ++ r).getD 1 ⟨0, 0, []⟩ = ⟨2, 1, []⟩ := rfl
  have g2 : (baseN ++ r).getD 2 ⟨0, 0, []⟩ = ⟨26, 0, []⟩ := rfl
  simp only [sortsTo, g0, g1, g2]
  rfl
theorem sortsTo_take (L : List Nd) (a : Nat) : ∀ b, a ≤ b → (sortsTo L b).take a = sortsTo L a := by
  intro b hb
  induction b with
  | zero => simp at hb; subst hb; rfl
  | succ b ih =>
    by_cases e : a = b + 1
    · subst e; rw [List.take_of_length_le (by rw [sortsTo_len]; exact Nat.le_refl _)]
    · show (sortsTo L b ++ _).take a = _
      rw [List.take_append_of_le_length (by rw [sortsTo_len]; omega)]
      exact ih (by omega)
theorem idxs_base (r : List Nd) (s : Int) (h : s = 1 ∨ s = 2) : 0 < (idxs (sortsF (baseN ++ r)) s (baseN ++ r).length).length := by
  have h3 : (sortsF (baseN ++ r)).take 3 = [1, 1, 2] := by
    unfold sortsF
    rw [sortsTo_take _ 3 _ (by simp [baseN])]
    exact sorts_base r
  have hl : 3 ≤ (baseN ++ r).length := by simp [baseN]
  have hg : ∀ i, i < 3 → (sortsF (baseN ++ r)).getD i 0 = ([1, 1, 2] : List Int).getD i 0 := by
    intro i hi
    rw [← h3]
    simp [List.getD, hi]
  unfold idxs
  rw [List.length_map]
  apply List.length_pos_iff.2
  intro hnil
  rw [List.filter_eq_nil_iff] at hnil
  rcases h with rfl | rfl
  · exact hnil 0 (List.mem_range.2 (by omega)) (by rw [hg 0 (by omega)]; rfl)
  · exact hnil 2 (List.mem_range.2 (by omega)) (by rw [hg 2 (by omega)]; rfl)
theorem idxs_mem {s : List Int} {sort x : Int} {k : Nat} (h : x ∈ idxs s sort k) : 0 ≤ x ∧ x < k ∧ s.getD x.toNat 0 = sort := by
  unfold idxs at h
  obtain ⟨i, hi, rfl⟩ := List.mem_map.1 h
  obtain ⟨h1, h2⟩ := List.mem_filter.1 hi
  simp at h1 h2
  exact ⟨by omega, by omega, by simpa using h2⟩
/-- The node that is picked has the sort that was asked for. -/
theorem ofF_spec (L : List Nd) (sort n : Int) (hne : 0 < (idxs (sortsF L) sort L.length).length) : 0 ≤ ofF L sort n ∧ ofF L sort n < L.length ∧ (sortsF L).getD (ofF L sort n).toNat 0 = sort := by
  apply idxs_mem (k := L.length)
  unfold ofF
  have h1 := Int.emod_nonneg n (show ((idxs (sortsF L) sort L.length).length : Int) ≠ 0 by omega)
  generalize n % ((idxs (sortsF L) sort L.length).length : Int) = y at *
  have hlt : (idxs (sortsF L) sort L.length).length - 1 - y.toNat < (idxs (sortsF L) sort L.length).length := by omega
  rw [List.getD, List.getElem?_eq_getElem hlt]
  exact List.getElem_mem hlt
theorem nodeOf_small (values : Bool) (out : List Nd) (x : Int) : (nodeOf values out x).kids.length ≤ 3 := by
  have := op2F_range values x
  have := arity_small (op2F values x) (by omega) (by omega)
  simp only [nodeOf, kidsTo, List.length_map, List.length_range]
  omega
theorem nodesTo_small (values : Bool) (l : List Int) (k : Nat) : ∀ nd ∈ nodesTo values l k, nd.kids.length ≤ 3 :=
  foldl_inv (fun (out : List Nd) => ∀ nd ∈ out, nd.kids.length ≤ 3) (nodesStep values) _ _ (by simp [baseN]) (fun a b _ h nd hnd => by
    unfold nodesStep at hnd
    split at hnd
    · exact h nd hnd
    · rcases List.mem_append.1 hnd with h1 | h1
      · exact h nd h1
      · simp at h1; subst h1; exact nodeOf_small values a b)
end Go.Proofs.Ytlehiklgbladoaa
