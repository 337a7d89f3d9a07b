/-
  Congruence closure, in plain Lean: the smallest relation that contains given pairs and is closed under congruence, as the function to the smallest node of each class. No program in sight.
  What the reference's and the generator's small functions compute, in plain Lean. No program in sight.
  The sorts of a list of nodes, in plain Lean.
-/

namespace Go.Proofs.Ytnefhokojbkppaa

/-- A node: its operation, its immediate operand, its operands. -/
structure Nd where
  op : Int
  imm : Int
  kids : List Int

def okKids (n : Nat) (kids : List Int) : Bool := kids.all fun x => decide (0 ≤ x) && decide (x < n)
def kidCs (c : Nat → Nat) (kids : List Int) : List Nat := kids.map fun x => c x.toNat

/-- Two classes joined. -/
def joinc (c : Nat → Nat) (a b : Nat) : Nat → Nat := fun x => if c x = max (c a) (c b) then min (c a) (c b) else c x

theorem joinc_same {c : Nat → Nat} {i j : Nat} (h : c i = c j) : joinc c i j = c := by
  funext x
  unfold joinc
  rw [h, Nat.max_self, Nat.min_self]
  split <;> simp_all
theorem joinc_comm (c : Nat → Nat) (i j : Nat) : joinc c i j = joinc c j i := by
  funext x
  unfold joinc
  rw [Nat.max_comm, Nat.min_comm]

/-- Each class is named by its smallest node. -/
structure Named (n : Nat) (c : Nat → Nat) : Prop where
  le : ∀ k, k < n → c k ≤ k
  idem : ∀ k, k < n → c (c k) = c k

theorem Named.id (n : Nat) : Named n id := ⟨fun _ _ => Nat.le_refl _, fun _ _ => rfl⟩
theorem Named.lt {n : Nat} {c : Nat → Nat} (h : Named n c) {k : Nat} (hk : k < n) : c k < n := by have := h.le k hk; omega
theorem Named.join {n : Nat} {c : Nat → Nat} (h : Named n c) {a b : Nat} (ha : a < n) (hb : b < n) : Named n (joinc c a b) := by
  by_cases hne : c a = c b
  · rw [joinc_same hne]; exact h
  have ca := h.le a ha
  have cb := h.le b hb
  have ia := h.idem a ha
  have ib := h.idem b hb
  have hmin : c (min (c a) (c b)) = min (c a) (c b) := by
    rcases Nat.le_total (c a) (c b) with q | q
    · rw [Nat.min_eq_left q, ia]
    · rw [Nat.min_eq_right q, ib]
  refine ⟨fun k hk => ?_, fun k hk => ?_⟩
  · have := h.le k hk
    unfold joinc; split <;> omega
  · unfold joinc
    by_cases q : c k = max (c a) (c b)
    · simp only [q, if_true]; rw [hmin, if_neg (by omega)]
    · simp only [q, if_false]; rw [h.idem k hk, if_neg q]

theorem joinc_pair {c : Nat → Nat} (a b : Nat) : joinc c a b a = joinc c a b b := by
  unfold joinc
  rcases Nat.le_total (c a) (c b) with h | h
  · rw [Nat.max_eq_right h, Nat.min_eq_left h]; split <;> simp_all
  · rw [Nat.max_eq_left h, Nat.min_eq_right h]; split <;> simp_all
theorem joinc_keeps {c : Nat → Nat} {a b x y : Nat} (h : c x = c y) : joinc c a b x = joinc c a b y := by
  unfold joinc; rw [h]
theorem joinc_eq {c : Nat → Nat} {a b x y : Nat} (h : joinc c a b x = joinc c a b y) : c x = c y ∨ (c x = c a ∧ c y = c b) ∨ (c x = c b ∧ c y = c a) := by
  unfold joinc at h
  split at h <;> split at h <;> omega

/-- How many classes there are. -/
def roots (n : Nat) (c : Nat → Nat) : Nat := ((List.range n).filter fun k => c k == k).length
theorem filter_lt {α : Type} (p q : α → Bool) : ∀ (l : List α) (x : α), x ∈ l → p x = false → q x = true → (∀ y ∈ l, p y = true → q y = true) → (l.filter p).length < (l.filter q).length
  | [], x, hx, _, _, _ => by cases hx
  | a :: l, x, hx, hp, hq, h => by
    have hle : ∀ l : List α, (∀ y ∈ l, p y = true → q y = true) → (l.filter p).length ≤ (l.filter q).length := by
      intro l hl
      induction l with
      | nil => simp
      | cons b l ih =>
        have := ih (fun y hy => hl y (by simp [hy]))
        have hb := hl b (by simp)
        cases hpb : p b <;> cases hqb : q b <;> simp_all <;> omega
    have hl := hle l (fun y hy => h y (by simp [hy]))
    rcases List.mem_cons.1 hx with rfl | hx
    · simp [hp, hq]; omega
    · have ih := filter_lt p q l x hx hp hq (fun y hy => h y (by simp [hy]))
      have ha := h a (by simp)
      cases hpa : p a <;> cases hqa : q a <;> simp_all <;> omega
theorem roots_join {n : Nat} {c : Nat → Nat} (h : Named n c) {a b : Nat} (ha : a < n) (hb : b < n) (hne : c a ≠ c b) : roots n (joinc c a b) < roots n c := by
  have ca := h.lt ha
  have cb := h.lt hb
  have ia := h.idem a ha
  have ib := h.idem b hb
  refine filter_lt _ _ _ (max (c a) (c b)) (by simp; omega) ?_ ?_ ?_
  · have hm : c (max (c a) (c b)) = max (c a) (c b) := by
      rcases Nat.le_total (c a) (c b) with q | q
      · rw [Nat.max_eq_right q, ib]
      · rw [Nat.max_eq_left q, ia]
    simp only [joinc, hm, if_true, beq_eq_false_iff_ne]
    omega
  · have hm : c (max (c a) (c b)) = max (c a) (c b) := by
      rcases Nat.le_total (c a) (c b) with q | q
      · rw [Nat.max_eq_right q, ib]
      · rw [Nat.max_eq_left q, ia]
    simp [hm]
  · intro y hy hj
    simp only [List.mem_range] at hy
    simp only [beq_iff_eq] at hj ⊢
    unfold joinc at hj
    have := h.le y hy
    split at hj
    · omega
    · exact hj

/-- Same operation, immediate operand and number of operands, all operands in range and pairwise equivalent. -/
def Cg (n : Nat) (c : Nat → Nat) (a b : Nd) : Prop :=
  a.op = b.op ∧ a.imm = b.imm ∧ okKids n a.kids = true ∧ okKids n b.kids = true ∧ kidCs c a.kids = kidCs c b.kids

def inR (n : Nat) (x : Int) : Prop := 0 ≤ x ∧ x < n

/-- d does not separate the pairs, nor congruent nodes. -/
structure Resp (L : List Nd) (ps : List (Int × Int)) (d : Nat → Nat) : Prop where
  pair : ∀ p ∈ ps, inR L.length p.1 → inR L.length p.2 → d p.1.toNat = d p.2.toNat
  cong : ∀ i j (hi : i < L.length) (hj : j < L.length), Cg L.length d L[i] L[j] → d i = d j

/-- c joins nothing that must not be joined. -/
def Snd (L : List Nd) (ps : List (Int × Int)) (c : Nat → Nat) : Prop :=
  ∀ d, Resp L ps d → ∀ i j, i < L.length → j < L.length → c i = c j → d i = d j

structure IsCl (L : List Nd) (ps : List (Int × Int)) (c : Nat → Nat) : Prop where
  named : Named L.length c
  resp : Resp L ps c
  snd : Snd L ps c

theorem IsCl.le_of {L : List Nd} {ps qs : List (Int × Int)} {c c' : Nat → Nat} (h : IsCl L ps c) (h' : IsCl L qs c') (hs : Resp L ps c') {k : Nat} (hk : k < L.length) : c' k ≤ c k := by
  have h1 := h.snd c' hs k (c k) hk (h.named.lt hk) (h.named.idem k hk).symm
  rw [h1]
  exact h'.named.le _ (h.named.lt hk)
theorem IsCl.unique {L : List Nd} {ps : List (Int × Int)} {c c' : Nat → Nat} (h : IsCl L ps c) (h' : IsCl L ps c') {k : Nat} (hk : k < L.length) : c k = c' k :=
  Nat.le_antisymm (h'.le_of h h.resp hk) (h.le_of h' h'.resp hk)

theorem Snd.id (L : List Nd) (ps : List (Int × Int)) : Snd L ps id := fun _ _ i j _ _ h => by
  have : i = j := h
  rw [this]
theorem Snd.join {L : List Nd} {ps : List (Int × Int)} {c : Nat → Nat} (h : Snd L ps c) {a b : Nat} (ha : a < L.length) (hb : b < L.length) (hd : ∀ d, Resp L ps d → d a = d b) : Snd L ps (joinc c a b) := by
  intro d hr i j hi hj he
  rcases joinc_eq he with h1 | ⟨h1, h2⟩ | ⟨h1, h2⟩
  · exact h d hr i j hi hj h1
  · rw [h d hr i a hi ha h1, h d hr j b hj hb h2, hd d hr]
  · rw [h d hr i b hi hb h1, h d hr j a hj ha h2, hd d hr]

theorem Cg.symm {n : Nat} {c : Nat → Nat} {a b : Nd} (h : Cg n c a b) : Cg n c b a := ⟨h.1.symm, h.2.1.symm, h.2.2.2.1, h.2.2.1, h.2.2.2.2.symm⟩

/-- Congruent for c, hence for every d that c is sound for. -/
theorem Snd.cg {L : List Nd} {ps : List (Int × Int)} {c : Nat → Nat} (h : Snd L ps c) {a b : Nd} (hc : Cg L.length c a b) {d : Nat → Nat} (hr : Resp L ps d) : Cg L.length d a b := by
  obtain ⟨h1, h2, h3, h4, h5⟩ := hc
  refine ⟨h1, h2, h3, h4, ?_⟩
  have hl : a.kids.length = b.kids.length := by simpa [kidCs] using congrArg List.length h5
  apply List.ext_getElem
  · simp [kidCs, hl]
  · intro i hi hi'
    have e := List.getElem_of_eq h5 (i := i) (by simpa [kidCs] using hi)
    simp only [kidCs, List.getElem_map] at e ⊢
    simp only [okKids, List.all_eq_true, Bool.and_eq_true, decide_eq_true_eq] at h3 h4
    have ka := h3 _ (List.getElem_mem (by simpa [kidCs] using hi : i < a.kids.length))
    have kb := h4 _ (List.getElem_mem (by simpa [kidCs] using hi' : i < b.kids.length))
    exact h d hr _ _ (by omega) (by omega) e

theorem okKids_get {n : Nat} {kids : List Int} (h : okKids n kids = true) {i : Nat} (hi : i < kids.length) : 0 ≤ kids[i] ∧ kids[i] < n := by
  simp only [okKids, List.all_eq_true, Bool.and_eq_true, decide_eq_true_eq] at h
  exact h _ (List.getElem_mem hi)

end Go.Proofs.Ytnefhokojbkppaa

namespace Go.Proofs.Ytnefhokojbkppaa

def I64 (x : Int) : Prop := -9223372036854775808 ≤ x ∧ x ≤ 9223372036854775807
theorem I64.tdiv {n : Int} (h : I64 n) (c : Nat) (hc : 2 ≤ c) : I64 (n.tdiv c) := by
  have h1 : (n.tdiv c).natAbs = n.natAbs / (c : Int).natAbs := Int.natAbs_tdiv n c
  have h2 : n.natAbs / (c : Int).natAbs ≤ n.natAbs / 2 := by
    rw [Int.natAbs_natCast]
    exact Nat.div_le_div_left hc (by omega)
  rw [← h1] at h2
  generalize n.tdiv c = q at *
  unfold I64 at *
  omega
theorem tmod_pick (n m : Int) (hm : 0 < m) : n % m = if n.tmod m < 0 then n.tmod m + m else n.tmod m := by
  have h1 := Int.tmod_lt_of_pos n hm
  have h2 := Int.lt_tmod_of_pos n hm
  have h3 : (n.tmod m) % m = n % m := by rw [Int.tmod_def, Int.sub_mul_emod_self_left]
  split
  · rw [← h3, ← Int.add_emod_right, Int.emod_eq_of_lt (by omega) (by omega)]
  · rw [← h3, Int.emod_eq_of_lt (by omega) (by omega)]
def arityF (op : Int) : Int × Bool :=
  if op = 1 ∨ op = 2 ∨ op = 3 ∨ op = 26 then (0, true)
  else if op = 20 ∨ op = 21 ∨ op = 24 ∨ op = 25 then (1, true)
  else if (4 ≤ op ∧ op ≤ 19) ∨ op = 23 ∨ op = 27 ∨ op = 29 then (2, true)
  else if op = 22 ∨ op = 28 then (3, true)
  else if op = 30 ∨ op = 31 then (-1, true)
  else (0, false)
def maxImmF (op : Int) : Int :=
  if op = 2 then 5 else if op = 3 then 255 else if op = 23 ∨ op = 28 then 3 else if op = 27 then 1000016 else if op = 30 then 7 else if op = 31 then 15 else if op = 25 then 15 else -1
def validImmF (op n : Int) : Bool :=
  if op = 1 then true else if maxImmF op < 0 then decide (n = 0) else decide (0 ≤ n ∧ n ≤ maxImmF op ∧ (op ≠ 27 ∨ 0 < n))
def pSortF (op : Int) : Int := if op = 27 ∨ op = 28 ∨ op = 29 then 2 else 1
def operandSortF (op k : Int) : Int := if k = 0 ∧ (pSortF op = 2 ∨ op = 23 ∨ op = 24) then 2 else 1
def sortIfF (b : Bool) (n : Int) : Int := if b then n else 0
def allOne (k : List Int) : Bool := k.all fun x => decide (x = 1)
def edgesF : List Int := [0, 1, -1, 2, -9223372036854775808, 9223372036854775807, 4294967296, -2147483648, 63, 64]
def wordF (n raw : Int) : Int := if n % 24 < 10 then edgesF.getD (n % 24).toNat 0 else if n % 24 < 22 then (n.tdiv 24) % 17 - 6 else raw

/-- The node is malformed by itself: its operation, the number of its operands or its immediate operand. -/
def badNode (op imm : Int) (kids : List Int) : Bool :=
  !(arityF op).2 || (decide (0 ≤ (arityF op).1) && decide ((kids.length : Int) ≠ (arityF op).1)) || !validImmF op imm
def goodSortF (L : List Nd) (op imm : Int) (kids k : List Int) : Int :=
  if op = 3 then (if imm.tmod 16 = 0 then 2 else 1)
  else if op = 26 then 2
  else if op = 22 then (if k.getD 0 0 ≠ 1 ∨ k.getD 1 0 ≠ k.getD 2 0 ∨ k.getD 1 0 = 3 then 0 else k.getD 1 0)
  else if op = 23 then sortIfF (decide (k.getD 0 0 = 2 ∧ k.getD 1 0 = 1)) 1
  else if op = 24 then sortIfF (decide (k.getD 0 0 = 2)) 1
  else if op = 25 then (if k.getD 0 0 ≠ 3 ∨ ((L.getD (kids.getD 0 0).toNat ⟨0, 0, []⟩).kids.length : Int) / 2 ≤ imm then 0 else sortIfF (decide (imm = 0)) 1 + 1)
  else if op = 27 ∨ op = 29 then sortIfF (decide (k.getD 0 0 = 2 ∧ k.getD 1 0 = 1)) 2
  else if op = 28 then sortIfF (decide (k.getD 0 0 = 2 ∧ k.getD 1 0 = 1 ∧ k.getD 2 0 = 1)) 2
  else if op = 30 then sortIfF (decide (1 ≤ k.length ∧ k.length ≤ 7 ∧ k.getD 0 0 = 2 ∧ allOne (k.drop 1) = true)) 2
  else if op = 31 then sortIfF (decide (k.length % 2 = 1 ∧ 1 ≤ k.length / 2 ∧ k.length / 2 ≤ 16 ∧ k.getD 0 0 = 2 ∧ allOne ((k.drop 1).take (k.length / 2)) = true ∧ k.getD (k.length / 2 + 1) 0 = 2 ∧ allOne (k.drop (k.length / 2 + 2)) = true)) 3
  else sortIfF (allOne k) 1
def nodeSortF (L : List Nd) (op imm : Int) (kids k : List Int) : Int := if badNode op imm kids then 0 else goodSortF L op imm kids k
end Go.Proofs.Ytnefhokojbkppaa

namespace Go.Proofs.Ytnefhokojbkppaa

def kidOk (out : List Int) (q : Int) : Bool := decide (0 ≤ q) && decide (q < out.length) && decide (out.getD q.toNat 0 ≠ 0)
def kidsOk (out : List Int) (kids : List Int) : Bool := kids.all (kidOk out)
def kidSorts (out : List Int) (kids : List Int) : List Int := kids.map fun q => out.getD q.toNat 0
def sortsStep (L : List Nd) (out : List Int) (nd : Nd) : Int := if kidsOk out nd.kids then nodeSortF L nd.op nd.imm nd.kids (kidSorts out nd.kids) else 0
def sortsTo (L : List Nd) : Nat → List Int
  | 0 => []
  | k + 1 => sortsTo L k ++ [sortsStep L (sortsTo L k) (L.getD k ⟨0, 0, []⟩)]
def sortsF (L : List Nd) : List Int := sortsTo L L.length
theorem sortsTo_len (L : List Nd) (k : Nat) : (sortsTo L k).length = k := by
  induction k with
  | zero => rfl
  | succ k ih => simp [sortsTo, ih]
theorem sortsTo_succ (L : List Nd) (k : Nat) (h : k < L.length) : sortsTo L (k + 1) = sortsTo L k ++ [sortsStep L (sortsTo L k) L[k]] := by
  show sortsTo L k ++ _ = _
  simp [List.getD, List.getElem?_eq_getElem h]
theorem kidsOk_snoc (out : List Int) (kids : List Int) (j : Nat) (h : j < kids.length) : kidsOk out (kids.take (j + 1)) = (kidsOk out (kids.take j) && kidOk out kids[j]) := by
  unfold kidsOk; rw [List.take_succ_eq_append_getElem h, List.all_append]; simp
theorem kidSorts_snoc (out : List Int) (kids : List Int) (j : Nat) (h : j < kids.length) : kidSorts out (kids.take (j + 1)) = kidSorts out (kids.take j) ++ [out.getD kids[j].toNat 0] := by
  unfold kidSorts; rw [List.take_succ_eq_append_getElem h, List.map_append]; simp
theorem kidsOk_no {out : List Int} {kids : List Int} {j : Nat} (h : j < kids.length) (hb : kidOk out kids[j] = false) : kidsOk out kids = false := by
  unfold kidsOk; rw [List.all_eq_false]; exact ⟨kids[j], List.getElem_mem h, by simp [hb]⟩
theorem kidOk_iff {out : List Int} {q : Int} : kidOk out q = true ↔ 0 ≤ q ∧ q < out.length ∧ out.getD q.toNat 0 ≠ 0 := by
  simp [kidOk, and_assoc]
theorem kidsOk_mem {out : List Int} {kids : List Int} (h : kidsOk out kids = true) : ∀ q ∈ kids, 0 ≤ q ∧ q < out.length := by
  intro q hq
  unfold kidsOk at h
  rw [List.all_eq_true] at h
  have := kidOk_iff.1 (h q hq)
  exact ⟨this.1, this.2.1⟩
end Go.Proofs.Ytnefhokojbkppaa
