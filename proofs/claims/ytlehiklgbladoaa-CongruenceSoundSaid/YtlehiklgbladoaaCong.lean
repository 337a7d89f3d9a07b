/-
  Congruence closure, in plain Lean: the smallest relation that contains given pairs and is closed under congruence, as the function to the smallest node of each class. No program in sight.
-/
namespace Go.Proofs.Ytlehiklgbladoaa

/-- A node: its operation, its immediate operand, its operands. -/
structure Nd where
  op : Int
  imm : Int
  kids : List Int

def okKids (n : Nat) (kids : List Int) : Bool := kids.all fun x => decide (0 ≤ x) && decide (x < n)
def kidCs (c : Nat → Nat) (kids : List Int) : List Nat := kids.map fun x => c x.toNat

/-- Two classes joined. -/
def joinc (c : Nat → Nat) (a b : Nat) : Nat → Nat := fun x => if c x = max (c a) (c b) then min (c a) (c b) else c x

theorem joinc_same {c : Nat → Nat} {i j : Nat} (h : c i = c j) : joinc c i j = c := by
  funext x
  unfold joinc
  rw [h, Nat.max_self, Nat.min_self]
  split <;> simp_all
theorem joinc_comm (c : Nat → Nat) (i j : Nat) : joinc c i j = joinc c j i := by
  funext x
  unfold joinc
  rw [Nat.max_comm, Nat.min_comm]

/-- Each class is named by its smallest node. -/
structure Named (n : Nat) (c : Nat → Nat) : Prop where
  le : ∀ k, k < n → c k ≤ k
  idem : ∀ k, k < n → c (c k) = c k

theorem Named.id (n : Nat) : Named n id := ⟨fun _ _ => Nat.le_refl _, fun _ _ => rfl⟩
theorem Named.lt {n : Nat} {c : Nat → Nat} (h : Named n c) {k : Nat} (hk : k < n) : c k < n := by have := h.le k hk; omega
theorem Named.join {n : Nat} {c : Nat → Nat} (h : Named n c) {a b : Nat} (ha : a < n) (hb : b < n) : Named n (joinc c a b) := by
  by_cases hne : c a = c b
  · rw [joinc_same hne]; exact h
  have ca := h.le a ha
  have cb := h.le b hb
  have ia := h.idem a ha
  have ib := h.idem b hb
  have hmin : c (min (c a) (c b)) = min (c a) (c b) := by
    rcases Nat.le_total (c a) (c b) with q | q
    · rw [Nat.min_eq_left q, ia]
    · rw [Nat.min_eq_right q, ib]
  refine ⟨fun k hk => ?_, fun k hk => ?_⟩
  · have := h.le k hk
    unfold joinc; split <;> omega
  · unfold joinc
    by_cases q : c k = max (c a) (c b)
    · simp only [q, if_true]; rw [hmin, if_neg (by omega)]
    · simp only [q, if_false]; rw [h.idem k hk, if_neg q]

theorem joinc_pair {c : Nat → Nat} (a b : Nat) : joinc c a b a = joinc c a b b := by
  unfold joinc
  rcases Nat.le_total (c a) (c b) with h | h
  · rw [Nat.max_eq_right h, Nat.min_eq_left h]; split <;> simp_all
  · rw [Nat.max_eq_left h, Nat.min_eq_right h]; split <;> simp_all
theorem joinc_keeps {c : Nat → Nat} {a b x y : Nat} (h : c x = c y) : joinc c a b x = joinc c a b y := by
  unfold joinc; rw [h]
theorem joinc_eq {c : Nat → Nat} {a b x y : Nat} (h : joinc c a b x = joinc c a b y) : c x = c y ∨ (c x = c a ∧ c y = c b) ∨ (c x = c b ∧ c y = c a) := by
  unfold joinc at h
  split at h <;> split at h <;> omega

/-- How many classes there are. -/
def roots (n : Nat) (c : Nat → Nat) : Nat := ((List.range n).filter fun k => c k == k).length
theorem filter_lt {α : Type} (p q : α → Bool) : ∀ (l : List α) (x : α), x ∈ l → p x = false → q x = true → (∀ y ∈ l, p y = true → q y = true) → (l.filter p).length < (l.filter q).length
  | [], x, hx, _, _, _ => by cases hx
  | a :: l, x, hx, hp, hq, h => by
    have hle : ∀ l : List α, (∀ y ∈ l, p y = true → q y = true) → (l.filter p).length ≤ (l.filter q).length := by
      intro l hl
      induction l with
      | nil => simp
      | cons b l ih =>
        have := ih (fun y hy => hl y (by simp [hy]))
        have hb := hl b (by simp)
        cases hpb : p b <;> cases hqb : q b <;> simp_all <;> omega
    have hl := hle l (fun y hy => h y (by simp [hy]))
    rcases List.mem_cons.1 hx with rfl | hx
    · simp [hp, hq]; omega
    · have ih := filter_lt p q l x hx hp hq (fun y hy => h y (by simp [hy]))
      have ha := h a (by simp)
      cases hpa : p a <;> cases hqa : q a <;> simp_all <;> omega
theorem roots_join {n : Nat} {c : Nat → Nat} (h : Named n c) {a b : Nat} (ha : a < n) (hb : b < n) (hne : c a ≠ c b) : roots n (joinc c a b) < roots n c := by
  have ca := h.lt ha
  have cb := h.lt hb
  have ia := h.idem a ha
  have ib := h.idem b hb
  refine filter_lt _ _ _ (max (c a) (c b)) (by simp; omega) ?_ ?_ ?_
  · have hm : c (max (c a) (c b)) = max (c a) (c b) := by
      rcases Nat.le_total (c a) (c b) with q | q
      · rw [Nat.max_eq_right q, ib]
      · rw [Nat.max_eq_left q, ia]
    simp only [joinc, hm, if_true, beq_eq_false_iff_ne]
    omega
  · have hm : c (max (c a) (c b)) = max (c a) (c b) := by
      rcases Nat.le_total (c a) (c b) with q | q
      · rw [Nat.max_eq_right q, ib]
      · rw [Nat.max_eq_left q, ia]
    simp [hm]
  · intro y hy hj
    simp only [List.mem_range] at hy
    simp only [beq_iff_eq] at hj ⊢
    unfold joinc at hj
    have := h.le y hy
    split at hj
    · omega
    · exact hj

/-- Same operation, immediate operand and number of operands, all operands in range and pairwise equivalent. -/
def Cg (n : Nat) (c : Nat → Nat) (a b : Nd) : Prop :=
  a.op = b.op ∧ a.imm = b.imm ∧ okKids n a.kids = true ∧ okKids n b.kids = true ∧ kidCs c a.kids = kidCs c b.kids

def inR (n : Nat) (x : Int) : Prop := 0 ≤ x ∧ x < n

/-- d does not separate the pairs, nor congruent nodes. -/
structure Resp (L : List Nd) (ps : List (Int × Int)) (d : Nat → Nat) : Prop where
  pair : ∀ p ∈ ps, inR L.length p.1 → inR L.length p.2 → d p.1.toNat = d p.2.toNat
  cong : ∀ i j (hi : i < L.length) (hj : j < L.length), Cg L.length d L[i] L[j] → d i = d j

/-- c joins nothing that must not be joined. -/
def Snd (L : List Nd) (ps : List (Int × Int)) (c : Nat → Nat) : Prop :=
  ∀ d, Resp L ps d → ∀ i j, i < L.length → j < L.length → c i = c j → d i = d j

structure IsCl (L : List Nd) (ps : List (Int × Int)) (c : Nat → Nat) : Prop where
  named : Named L.length c
  resp : Resp L ps c
  snd : Snd L ps c

theorem IsCl.le_of {L : List Nd} {ps qs : List (Int × Int)} {c c' : Nat → Nat} (h : IsCl L ps c) (h' : IsCl L qs c') (hs : Resp L ps c') {k : Nat} (hk : k < L.length) : c' k ≤ c k := by
  have h1 := h.snd c' hs k (c k) hk (h.named.lt hk) (h.named.idem k hk).symm
  rw [h1]
  exact h'.named.le _ (h.named.lt hk)
theorem IsCl.unique {L : List Nd} {ps : List (Int × Int)} {c c' : Nat → Nat} (h : IsCl L ps c) (h' : IsCl L ps c') {k : Nat} (hk : k < L.length) : c k = c' k :=
  Nat.le_antisymm (h'.le_of h h.resp hk) (h.le_of h' h'.resp hk)

theorem Snd.id (L : List Nd) (ps : List (Int × Int)) : Snd L ps id := fun _ _ i j _ _ h => by
  have : i = j := h
  rw [this]
theorem Snd.join {L : List Nd} {ps : List (Int × Int)} {c : Nat → Nat} (h : Snd L ps c) {a b : Nat} (ha : a < L.length) (hb : b < L.length) (hd : ∀ d, Resp L ps d → d a = d b) : Snd L ps (joinc c a b) := by
  intro d hr i j hi hj he
  rcases joinc_eq he with h1 | ⟨h1, h2⟩ | ⟨h1, h2⟩
  · exact h d hr i j hi hj h1
  · rw [h d hr i a hi ha h1, h d hr j b hj hb h2, hd d hr]
  · rw [h d hr i b hi hb h1, h d hr j a hj ha h2, hd d hr]

theorem Cg.symm {n : Nat} {c : Nat → Nat} {a b : Nd} (h : Cg n c a b) : Cg n c b a := ⟨h.1.symm, h.2.1.symm, h.2.2.2.1, h.2.2.1, h.2.2.2.2.symm⟩

/-- Congruent for c, hence for every d that c is sound for. -/
theorem Snd.cg {L : List Nd} {ps : List (Int × Int)} {c : Nat → Nat} (h : Snd L ps c) {a b : Nd} (hc : Cg L.length c a b) {d : Nat → Nat} (hr : Resp L ps d) : Cg L.length d a b := by
  obtain ⟨h1, h2, h3, h4, h5⟩ := hc
  refine ⟨h1, h2, h3, h4, ?_⟩
  have hl : a.kids.length = b.kids.length := by simpa [kidCs] using congrArg List.length h5
  apply List.ext_getElem
  · simp [kidCs, hl]
  · intro i hi hi'
    have e := List.getElem_of_eq h5 (i := i) (by simpa [kidCs] using hi)
    simp only [kidCs, List.getElem_map] at e ⊢
    simp only [okKids, List.all_eq_true, Bool.and_eq_true, decide_eq_true_eq] at h3 h4
    have ka := h3 _ (List.getElem_mem (by simpa [kidCs] using hi : i < a.kids.length))
    have kb := h4 _ (List.getElem_mem (by simpa [kidCs] using hi' : i < b.kids.length))
    exact h d hr _ _ (by omega) (by omega) e

theorem okKids_get {n : Nat} {kids : List Int} (h : okKids n kids = true) {i : Nat} (hi : i < kids.length) : 0 ≤ kids[i] ∧ kids[i] < n := by
  simp only [okKids, List.all_eq_true, Bool.and_eq_true, decide_eq_true_eq] at h
  exact h _ (List.getElem_mem hi)

end Go.Proofs.Ytlehiklgbladoaa
