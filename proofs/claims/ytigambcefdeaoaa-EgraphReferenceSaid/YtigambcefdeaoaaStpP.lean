/-
  The steps of a graph are its classes: c is the closure of the recorded pairs. Plain Lean: no program in sight.
-/
import Derived.Test.YtigambcefdeaoaaULaw
namespace Go.Proofs.Ytigambcefdeaoaa

/-- Each step joins two nodes of the graph, and nothing is joined but by steps. -/
structure PInv (G : EG) : Prop where
  wf : GWf G
  inr : ∀ s ∈ G.T, (0 ≤ s.l ∧ s.l < G.L.length) ∧ (0 ≤ s.r ∧ s.r < G.L.length)
  has : ∀ s ∈ G.T, G.c s.l.toNat = G.c s.r.toNat
  snd : ∀ d : Nat → Nat, (∀ s ∈ G.T, d s.l.toNat = d s.r.toNat) → ∀ i j, G.c i = G.c j → d i = d j
  nov : ∀ s ∈ G.T, s.vars = [] ∧ s.imms = []
theorem PInv.new {L : List Nd} (h : GWf (newG L)) : PInv (newG L) := ⟨h, by simp [newG], by simp [newG], fun d _ i j e => by have : i = j := e; rw [this], by simp [newG]⟩
theorem PInv.merge {G : EG} (h : PInv G) {s : Stp} (hl : 0 ≤ s.l ∧ s.l < G.L.length) (hr : 0 ≤ s.r ∧ s.r < G.L.length) (hv : s.vars = [] ∧ s.imms = []) : PInv (G.merge s) := by
  refine ⟨⟨h.wf.wf.merge (by omega) (by omega), h.wf.srt⟩, fun t ht => ?_, fun t ht => ?_, fun d hd i j e => ?_, fun t ht => ?_⟩
  · rcases List.mem_append.1 ht with ht | ht
    · exact h.inr t ht
    · rw [List.mem_singleton] at ht; subst ht; exact ⟨hl, hr⟩
  · rcases List.mem_append.1 ht with ht | ht
    · exact joinc_keeps (h.has t ht)
    · rw [List.mem_singleton] at ht; subst ht; exact joinc_pair (c := G.c) t.l.toNat t.r.toNat
  · have hd0 : ∀ t ∈ G.T, d t.l.toNat = d t.r.toNat := fun t ht => hd t (List.mem_append.2 (.inl ht))
    have hs : d s.l.toNat = d s.r.toNat := hd s (List.mem_append.2 (.inr (by simp)))
    have sn := h.snd d hd0
    rcases joinc_eq e with h1 | ⟨h1, h2⟩ | ⟨h1, h2⟩
    · exact sn i j h1
    · rw [sn i _ h1, sn j _ h2, hs]
    · rw [sn i _ h1, sn j _ h2, hs]
  · rcases List.mem_append.1 ht with ht | ht
    · exact h.nov t ht
    · rw [List.mem_singleton] at ht; subst ht; exact hv
theorem PInv.uni {G : EG} (h : PInv G) (s : Stp) (hv : s.vars = [] ∧ s.imms = []) : PInv (uniG G s) := by
  unfold uniG
  split
  · rename_i hn
    simp only [uniNew, uniOk, Bool.and_eq_true, decide_eq_true_eq] at hn
    exact h.merge ⟨hn.1.1, hn.1.2.1⟩ ⟨hn.1.2.2.1, hn.1.2.2.2.1⟩ hv
  · exact h
theorem PInv.push {G : EG} (h : PInv G) {nd : Nd} (hw : GWf (G.add nd)) : PInv (G.add nd) :=
  ⟨hw, fun s hs => by have := h.inr s hs; simp [EG.add]; omega, h.has, h.snd, h.nov⟩
theorem PInv.addI {G : EG} (h : PInv G) {nd : Nd} (hok : NdOk nd) : PInv (addG G nd) := by
  unfold addG
  split
  · exact h
  · rename_i hz
    split
    · exact h
    · rename_i hs
      split
      · exact h
      · have hp := h.push (h.wf.addWf hok hz hs (by omega))
        split
        · exact hp
        · rename_i i hi
          have := (older_some hi).1
          exact hp.merge ⟨by simp [cgStep], by simp [cgStep, EG.add]; omega⟩ ⟨by simp [cgStep], by simp [cgStep, EG.add]; omega⟩ ⟨rfl, rfl⟩
theorem PInv.rebuilt {G G' : EG} {n : Nat} (hr : Reb G n G') (h : PInv G) : PInv G' ∧ reb G'.c G'.L = none := by
  induction hr with
  | done e => exact ⟨h, e⟩
  | @step G G' i j n e _ ih =>
    obtain ⟨h1, h2, _, _⟩ := reb_some e
    exact ih (h.merge ⟨by simp [cgStep], by simp [cgStep]; omega⟩ ⟨by simp [cgStep], by simp [cgStep]; omega⟩ ⟨rfl, rfl⟩)
def prs (T : List Stp) : List (Int × Int) := T.map fun s => (s.l, s.r)
theorem PInv.isCl {G : EG} (h : PInv G) (hr : reb G.c G.L = none) : IsCl G.L (prs G.T) G.c := by
  refine h.wf.wf.isCl hr (fun d hd i j hi hj e => ?_) (fun p hp _ _ => ?_)
  · refine h.snd d (fun s hs => ?_) i j e
    have := h.inr s hs
    exact hd.pair (s.l, s.r) (List.mem_map.2 ⟨s, hs, rfl⟩) this.1 this.2
  · obtain ⟨s, hs, rfl⟩ := List.mem_map.1 hp
    exact h.has s hs
theorem addG_T (G : EG) (nd : Nd) : (addG G nd).T.length ≤ G.T.length + 1 := by
  unfold addG
  (repeat' split) <;> first | omega | (simp [EG.add, EG.merge]; done)
theorem addG_L (G : EG) (nd : Nd) : G.L.length ≤ (addG G nd).L.length ∧ (addG G nd).L.length ≤ G.L.length + 1 := by
  unfold addG
  (repeat' split) <;> first | omega | (simp [EG.add, EG.merge]; done)
theorem reb_zero {G G' : EG} {n : Nat} (h : Reb G n G') (hr : reb G.c G.L = none) : n = 0 ∧ G' = G := by
  cases h with
  | done _ => exact ⟨rfl, rfl⟩
  | step e _ => rw [hr] at e; cases e
end Go.Proofs.Ytigambcefdeaoaa
