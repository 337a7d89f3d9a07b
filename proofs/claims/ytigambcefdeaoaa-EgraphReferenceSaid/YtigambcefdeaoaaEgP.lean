/-
  E-graphs in plain Lean: nodes, classes, steps; what the operations leave, and when the classes are the congruence closure. No program in sight.
-/
import Derived.Test.YtigambcefdeaoaaNGood
namespace Go.Proofs.Ytigambcefdeaoaa

/-- A step: two nodes, a reason, the variables. -/
structure Stp where
  l : Int
  r : Int
  why : Int
  vars : List Int
  imms : List Int

/-- A graph: its nodes, the smallest node of each node's class, the steps. -/
structure EG where
  L : List Nd
  c : Nat → Nat
  T : List Stp

def nd0 : Nd := ⟨0, 0, []⟩
def cgB (c : Nat → Nat) (a b : Nd) : Bool := decide (a.op = b.op ∧ a.imm = b.imm ∧ kidCs c a.kids = kidCs c b.kids)
theorem cgB_iff {c : Nat → Nat} {a b : Nd} : cgB c a b = true ↔ a.op = b.op ∧ a.imm = b.imm ∧ kidCs c a.kids = kidCs c b.kids := by simp [cgB]
theorem cgB_symm {c : Nat → Nat} {a b : Nd} (h : cgB c a b = true) : cgB c b a = true := by
  rw [cgB_iff] at h ⊢; exact ⟨h.1.symm, h.2.1.symm, h.2.2.symm⟩
theorem cgB_trans {c : Nat → Nat} {a b d : Nd} (h : cgB c a b = true) (k : cgB c b d = true) : cgB c a d = true := by
  rw [cgB_iff] at h k ⊢; exact ⟨h.1.trans k.1, h.2.1.trans k.2.1, h.2.2.trans k.2.2⟩

/-- The smallest node ahead of j that is congruent to it. -/
def firstCg (c : Nat → Nat) (L : List Nd) (j : Nat) : Option Nat := (List.range j).find? fun i => cgB c (L.getD i nd0) (L.getD j nd0)
theorem find_range {p : Nat → Bool} {n i : Nat} : (List.range n).find? p = some i ↔ i < n ∧ p i = true ∧ ∀ k, k < i → p k = false := by
  induction n with
  | zero => simp
  | succ n ih =>
    rw [List.range_succ, List.find?_append]
    cases h : (List.range n).find? p with
    | some j =>
      simp only [Option.some_or, Option.some.injEq]
      have hj : j < n ∧ p j = true ∧ ∀ k, k < j → p k = false := by
        refine ⟨?_, List.find?_some h, ?_⟩
        · exact List.mem_range.1 (List.mem_of_find?_eq_some h)
        · intro k hk
          rw [List.find?_range_eq_some] at h
          have := h.2.2 k hk
          simpa using this
      constructor
      · rintro rfl; exact ⟨by omega, hj.2⟩
      · rintro ⟨h1, h2, h3⟩
        rcases Nat.lt_trichotomy j i with q | q | q
        · have := h3 j q; rw [hj.2.1] at this; cases this
        · exact q
        · have := hj.2.2 i q; rw [h2] at this; cases this
    | none =>
      have hn := List.find?_eq_none.1 h
      simp only [Option.none_or]
      constructor
      · intro hi
        have h1 := List.find?_some hi
        have h2 := List.mem_of_find?_eq_some hi
        simp at h2; subst h2
        refine ⟨by omega, h1, fun k hk => ?_⟩
        have := hn k (List.mem_range.2 hk)
        simpa using this
      · rintro ⟨h1, h2, h3⟩
        have : i = n := by
          rcases Nat.lt_or_ge i n with q | q
          · exact absurd h2 (hn i (List.mem_range.2 q))
          · omega
        subst this
        simp [h2]
theorem find_range_none {p : Nat → Bool} {n : Nat} : (List.range n).find? p = none ↔ ∀ k, k < n → p k = false := by
  rw [List.find?_eq_none]
  constructor
  · intro h k hk; have := h k (List.mem_range.2 hk); simpa using this
  · intro h k hk; rw [h k (List.mem_range.1 hk)]; simp

def rebAt (c : Nat → Nat) (L : List Nd) (j : Nat) : Option (Nat × Nat) := (firstCg c L j).bind fun i => if c i = c j then none else some (i, j)
def reb (c : Nat → Nat) (L : List Nd) : Option (Nat × Nat) := (List.range L.length).findSome? (rebAt c L)

def EG.merge (G : EG) (s : Stp) : EG := ⟨G.L, joinc G.c s.l.toNat s.r.toNat, G.T ++ [s]⟩
def cgStep (i j : Nat) : Stp := ⟨i, j, 0, [], []⟩
def EG.rebStep (G : EG) : Option EG := (reb G.c G.L).map fun p => G.merge (cgStep p.1 p.2)
inductive Reb : EG → Nat → EG → Prop
  | done {G : EG} : reb G.c G.L = none → Reb G 0 G
  | step {G G' : EG} {i j n : Nat} : reb G.c G.L = some (i, j) → Reb (G.merge (cgStep i j)) n G' → Reb G (n + 1) G'

/-- Well-formed: names, sorts, no node twice. -/
structure EG.Wf (G : EG) : Prop where
  named : Named G.L.length G.c
  out : ∀ k, G.L.length ≤ k → G.c k = k
  kids : ∀ j (h : j < G.L.length), okKids j G.L[j].kids = true
  ok : ∀ nd ∈ G.L, NdOk nd
  small : G.L.length ≤ 2000
  nodup : ∀ i j (hi : i < G.L.length) (hj : j < G.L.length), i < j → G.L[i] ≠ G.L[j]

theorem rebAt_some {c : Nat → Nat} {L : List Nd} {j i q : Nat} (h : rebAt c L j = some (i, q)) : q = j ∧ i < j ∧ cgB c (L.getD i nd0) (L.getD j nd0) = true ∧ c i ≠ c j ∧ ∀ k, k < i → cgB c (L.getD k nd0) (L.getD j nd0) = false := by
  unfold rebAt at h
  cases e : firstCg c L j with
  | none => rw [e] at h; cases h
  | some k =>
    rw [e] at h
    simp only [Option.bind_some] at h
    split at h
    · cases h
    · rename_i hne
      simp only [Option.some.injEq, Prod.mk.injEq] at h
      obtain ⟨rfl, rfl⟩ := h
      obtain ⟨h1, h2, h3⟩ := find_range.1 e
      exact ⟨rfl, h1, h2, hne, h3⟩
theorem reb_some {c : Nat → Nat} {L : List Nd} {i j : Nat} (h : reb c L = some (i, j)) : j < L.length ∧ i < j ∧ cgB c (L.getD i nd0) (L.getD j nd0) = true ∧ c i ≠ c j := by
  obtain ⟨q, hq, h2⟩ := List.exists_of_findSome?_eq_some h
  obtain ⟨rfl, a, b, d, _⟩ := rebAt_some h2
  exact ⟨List.mem_range.1 hq, a, b, d⟩
theorem reb_none {c : Nat → Nat} {L : List Nd} (h : reb c L = none) {i j : Nat} (hj : j < L.length) (hi : i < j) (hc : cgB c (L.getD i nd0) (L.getD j nd0) = true) : c i = c j := by
  have key : ∀ q, q < L.length → ∀ k, firstCg c L q = some k → c k = c q := fun q hq k hk => by
    have := List.findSome?_eq_none_iff.1 h q (List.mem_range.2 hq)
    unfold rebAt at this
    rw [hk] at this
    simp only [Option.bind_some] at this
    split at this
    · assumption
    · cases this
  have first : ∀ q, ∀ k, k < q → cgB c (L.getD k nd0) (L.getD q nd0) = true → ∃ f, firstCg c L q = some f ∧ f ≤ k := fun q k hk hkq => by
    cases e : firstCg c L q with
    | none => have := find_range_none.1 e k hk; rw [hkq] at this; cases this
    | some f =>
      refine ⟨f, rfl, ?_⟩
      rcases Nat.lt_or_ge k f with q' | q'
      · have := (find_range.1 e).2.2 k q'; rw [hkq] at this; cases this
      · exact q'
  obtain ⟨f, hf, hfi⟩ := first j i hi hc
  have hcf := key j hj f hf
  rcases Nat.lt_or_ge f i with q | q
  · have h1 := (find_range.1 hf).2.1
    obtain ⟨f2, hf2, hle⟩ := first i f q (cgB_trans h1 (cgB_symm hc))
    have h2 := (find_range.1 hf2).2.1
    have h3 : ¬ f2 < f := fun hlt => by
      have := (find_range.1 hf).2.2 f2 hlt
      rw [cgB_trans h2 hc] at this; cases this
    have : f2 = f := by omega
    subst this
    rw [← key i (by omega) f2 hf2]; exact hcf
  · have : f = i := by omega
    subst this; exact hcf

theorem okKids_up {n m : Nat} {kids : List Int} (h : okKids n kids = true) (hm : n ≤ m) : okKids m kids = true := okKids_mono h hm
theorem EG.Wf.cg {G : EG} (h : G.Wf) {c : Nat → Nat} {i j : Nat} (hi : i < G.L.length) (hj : j < G.L.length) (hc : cgB c (G.L.getD i nd0) (G.L.getD j nd0) = true) : Cg G.L.length c G.L[i] G.L[j] := by
  rw [getD_of hi, getD_of hj] at hc
  obtain ⟨a, b, d⟩ := cgB_iff.1 hc
  exact ⟨a, b, okKids_up (h.kids i hi) (by omega), okKids_up (h.kids j hj) (by omega), d⟩
theorem joinc_out {n : Nat} {c : Nat → Nat} (hn : Named n c) (ho : ∀ k, n ≤ k → c k = k) {a b : Nat} (ha : a < n) (hb : b < n) : ∀ k, n ≤ k → joinc c a b k = k := by
  intro k hk
  unfold joinc
  have h1 := hn.le a ha
  have h2 := hn.le b hb
  rw [ho k hk, if_neg (by omega)]
theorem EG.Wf.merge {G : EG} (h : G.Wf) {s : Stp} (hl : s.l.toNat < G.L.length) (hr : s.r.toNat < G.L.length) : (G.merge s).Wf :=
  ⟨h.named.join hl hr, joinc_out h.named h.out hl hr, h.kids, h.ok, h.small, h.nodup⟩

/-- A rebuilding: the steps taken are sound, and at its end congruent nodes are equal. -/
theorem Reb.all {G G' : EG} {n : Nat} (h : Reb G n G') (hw : G.Wf) : G'.L = G.L ∧ G'.Wf ∧ reb G'.c G'.L = none ∧ ∃ l : List (Nat × Nat), l.length = n ∧ G'.T = G.T ++ l.map (fun p => cgStep p.1 p.2) ∧
    (∀ p ∈ l, p.1 < G.L.length ∧ p.2 < G.L.length) ∧ (∀ ps, Snd G.L ps G.c → Snd G.L ps G'.c) ∧ (∀ x y, G.c x = G.c y → G'.c x = G'.c y) ∧ (∀ p ∈ l, G'.c p.1 = G'.c p.2) := by
  induction h with
  | done hr => exact ⟨rfl, hw, hr, [], rfl, by simp, by simp, fun _ h => h, fun _ _ h => h, by simp⟩
  | @step G G' i j n hr _ ih =>
    obtain ⟨h1, h2, h3, h4⟩ := reb_some hr
    have hi : (cgStep i j).l.toNat < G.L.length := by simp [cgStep]; omega
    have hj : (cgStep i j).r.toNat < G.L.length := by simp [cgStep]; omega
    obtain ⟨e1, e2, e3, l, e4, e5, e6, e7, e8, e9⟩ := ih (hw.merge hi hj)
    have hmono : ∀ x y, G.c x = G.c y → G'.c x = G'.c y := fun x y h => e8 x y (joinc_keeps h)
    refine ⟨e1, e2, e3, (i, j) :: l, by simp [e4], by rw [e5]; simp [EG.merge], ?_, fun ps hs => e7 ps ?_, hmono, ?_⟩
    · intro p hp
      rcases List.mem_cons.1 hp with rfl | hp
      · exact ⟨by dsimp only; omega, h1⟩
      · exact e6 p hp
    · have := hs.join (a := i) (b := j) (by omega) h1 (fun d hd => hd.cong i j (by omega) h1 (hs.cg (hw.cg (by omega) h1 h3) hd))
      simpa [EG.merge, cgStep] using this
    · intro p hp
      rcases List.mem_cons.1 hp with rfl | hp
      · refine e8 i j ?_
        have := joinc_pair (c := G.c) i j
        simpa [EG.merge, cgStep] using this
      · exact e9 p hp
theorem EG.Wf.closed {G : EG} (_h : G.Wf) (hr : reb G.c G.L = none) {i j : Nat} (hi : i < G.L.length) (hj : j < G.L.length) (hc : Cg G.L.length G.c G.L[i] G.L[j]) : G.c i = G.c j := by
  have hb : cgB G.c (G.L.getD i nd0) (G.L.getD j nd0) = true := by
    rw [getD_of hi, getD_of hj, cgB_iff]; exact ⟨hc.1, hc.2.1, hc.2.2.2.2⟩
  rcases Nat.lt_trichotomy i j with q | q | q
  · exact reb_none hr hj q hb
  · rw [q]
  · exact (reb_none hr hi q (cgB_symm hb)).symm
theorem EG.Wf.isCl {G : EG} (h : G.Wf) (hr : reb G.c G.L = none) {ps : List (Int × Int)} (hs : Snd G.L ps G.c) (hp : ∀ p ∈ ps, inR G.L.length p.1 → inR G.L.length p.2 → G.c p.1.toNat = G.c p.2.toNat) : IsCl G.L ps G.c :=
  ⟨h.named, ⟨hp, fun _ _ hi hj hc => h.closed hr hi hj hc⟩, hs⟩
/-- Each rebuilding ends. -/
theorem EG.Wf.rebEnds : ∀ (m : Nat) {G : EG}, G.Wf → roots G.L.length G.c ≤ m → ∃ n G', Reb G n G'
  | m, G, hw, hm => by
    cases hr : reb G.c G.L with
    | none => exact ⟨0, G, .done hr⟩
    | some p =>
      obtain ⟨i, j⟩ := p
      obtain ⟨h1, h2, h3, h4⟩ := reb_some hr
      have hi : (cgStep i j).l.toNat < G.L.length := by simp [cgStep]; omega
      have hj : (cgStep i j).r.toNat < G.L.length := by simp [cgStep]; omega
      have hlt := roots_join hw.named (show i < G.L.length by omega) h1 h4
      match m with
      | 0 => omega
      | m + 1 =>
        obtain ⟨n, G', h⟩ := EG.Wf.rebEnds m (G := G.merge (cgStep i j)) (hw.merge hi hj) (by simp [EG.merge, cgStep]; omega)
        exact ⟨n + 1, G', .step hr h⟩
end Go.Proofs.Ytigambcefdeaoaa
