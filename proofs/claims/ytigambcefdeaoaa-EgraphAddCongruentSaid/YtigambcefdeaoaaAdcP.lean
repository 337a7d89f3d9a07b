/-
  A node added to a closed graph leaves it closed; the classes stay the closure of the same pairs. Plain Lean: no program in sight.
-/
import Derived.Test.YtigambcefdeaoaaStpP
namespace Go.Proofs.Ytigambcefdeaoaa

/-- G is the closure of the pairs ps over its own nodes, so far as unions go; the pairs are in range. -/
structure CInv (ps : List (Int × Int)) (G : EG) : Prop where
  inv : UInv G.L (fun p => p ∈ ps) G
  rng : ∀ p ∈ ps, inR G.L.length p.1 ∧ inR G.L.length p.2
def Closed (G : EG) : Prop := ∀ i j (hi : i < G.L.length) (hj : j < G.L.length), Cg G.L.length G.c G.L[i] G.L[j] → G.c i = G.c j

theorem CInv.new {L : List Nd} (h : GWf (newG L)) : CInv [] (newG L) := ⟨(UInv.new h).same (fun _ f => f.elim) (fun _ h => by simp at h), by simp⟩
theorem UInv.congrL {L L' : List Nd} {D : Int × Int → Prop} {G : EG} (h : UInv L D G) (e : L = L') : UInv L' D G := e ▸ h
theorem CInv.uniNew {ps : List (Int × Int)} {G : EG} (h : CInv ps G) {s : Stp} (hn : uniNew G s = true) : CInv (ps ++ [(s.l, s.r)]) (uniG G s) := by
  have ho : uniOk G s = true := by unfold Go.Proofs.Ytigambcefdeaoaa.uniNew at hn; simp at hn; exact hn.1
  have hL := uniG_L G s
  refine ⟨((h.inv.uni ho).congrL hL.symm).same (fun p hp => .inl ?_) (fun p hp => .inl ?_), fun p hp => ?_⟩
  · rcases hp with hp | rfl
    · exact List.mem_append.2 (.inl hp)
    · exact List.mem_append.2 (.inr (by simp))
  · rcases List.mem_append.1 hp with hp | hp
    · exact .inl hp
    · rw [List.mem_singleton] at hp; exact .inr hp
  · rw [hL]
    rcases List.mem_append.1 hp with hp | hp
    · exact h.rng p hp
    · rw [List.mem_singleton] at hp
      subst hp
      simp only [uniOk, decide_eq_true_eq] at ho
      exact ⟨⟨ho.1, ho.2.1⟩, ⟨ho.2.2.1, ho.2.2.2.1⟩⟩
theorem uniG_old {G : EG} {s : Stp} (hn : uniNew G s = false) : uniG G s = G := by unfold uniG; rw [hn]; rfl
theorem CInv.rebuilt {ps : List (Int × Int)} {G G' : EG} {n : Nat} (hr : Reb G n G') (h : CInv ps G) : CInv ps G' ∧ Closed G' := by
  have hL := hr.L_
  obtain ⟨h1, h2⟩ := UInv.rebuilt hr h.inv
  refine ⟨⟨h1.congrL hL.symm, by rw [hL]; exact h.rng⟩, fun i j hi hj hc => h1.wf.wf.closed h2 hi hj hc⟩
theorem kidCs_same {n : Nat} {c d : Nat → Nat} {ks : List Int} (hk : okKids n ks = true) (h : ∀ i, i < n → c i = d i) : kidCs c ks = kidCs d ks := by
  unfold kidCs
  apply List.map_congr_left
  intro x hx
  simp only [okKids, List.all_eq_true, Bool.and_eq_true, decide_eq_true_eq] at hk
  have := hk x hx
  exact h _ (by omega)
/-- The graph with one node more, or joined to its first congruent node. -/
theorem CInv.grow {ps : List (Int × Int)} {G G' : EG} {nd : Nd} (h : CInv ps G) (hcl : Closed G) (hw : GWf G') (hL : G'.L = G.L ++ [nd]) (hk : okKids G.L.length nd.kids = true)
    (hold : ∀ i, i < G.L.length → G'.c i = G.c i)
    (hnew : (∃ i, i < G.L.length ∧ cgB G.c (G.L.getD i nd0) nd = true ∧ G'.c G.L.length = G.c i) ∨ ((∀ i, i < G.L.length → cgB G.c (G.L.getD i nd0) nd = false) ∧ G'.c G.L.length = G.L.length)) : CInv ps G' ∧ Closed G' := by
  have hn : G'.L.length = G.L.length + 1 := by rw [hL]; simp
  have get : ∀ i (hi : i < G.L.length), G'.L[i]'(by omega) = G.L[i] := fun i hi => by
    have : G'.L[i]? = G.L[i]? := by rw [hL, List.getElem?_append_left hi]
    rw [List.getElem?_eq_getElem (by omega), List.getElem?_eq_getElem hi] at this
    exact Option.some.inj this
  have last : G'.L[G.L.length]'(by omega) = nd := by
    have : G'.L[G.L.length]? = some nd := by rw [hL]; simp
    rw [List.getElem?_eq_getElem (by omega)] at this
    exact Option.some.inj this
  have hwG := h.inv.wf
  have okk : ∀ i (hi : i < G.L.length), okKids G.L.length G.L[i].kids = true := fun i hi => okKids_mono (hwG.wf.kids i hi) (by omega)
  have restr : ∀ d, RespP G'.L (fun p => p ∈ ps) d → RespP G.L (fun p => p ∈ ps) d := fun d hd =>
    ⟨fun p hp a b => hd.pair p hp ⟨a.1, by have := a.2; omega⟩ ⟨b.1, by have := b.2; omega⟩, fun i j hi hj hc => by
      refine hd.cong i j (by omega) (by omega) ?_
      rw [get i hi, get j hj]
      exact ⟨hc.1, hc.2.1, okKids_mono hc.2.2.1 (by omega), okKids_mono hc.2.2.2.1 (by omega), hc.2.2.2.2⟩⟩
  -- the new node against an old one
  have mix : ∀ d, RespP G'.L (fun p => p ∈ ps) d → ∀ i, i < G.L.length → cgB G.c (G.L.getD i nd0) nd = true → d i = d G.L.length := fun d hd i hi hc => by
    rw [getD_of hi, cgB_iff] at hc
    have hcg := h.inv.cg (a := G.L[i]) (b := nd) ⟨hc.1, hc.2.1, okk i hi, hk, hc.2.2⟩ (restr d hd)
    refine hd.cong i G.L.length (by omega) (by omega) ?_
    rw [get i hi, last]
    exact ⟨hcg.1, hcg.2.1, okKids_mono hcg.2.2.1 (by omega), okKids_mono hcg.2.2.2.1 (by omega), hcg.2.2.2.2⟩
  have lt : ∀ i, i < G.L.length → G.c i < G.L.length := fun i hi => hwG.wf.named.lt hi
  have snd : ∀ d, RespP G'.L (fun p => p ∈ ps) d → ∀ i, i < G.L.length → G'.c i = G'.c G.L.length → d i = d G.L.length := fun d hd i hi e => by
    rw [hold i hi] at e
    rcases hnew with ⟨q, hq, hcq, eq⟩ | ⟨_, eq⟩
    · rw [eq] at e
      rw [h.inv.snd d (restr d hd) i q hi hq e]
      exact mix d hd q hq hcq
    · rw [eq] at e
      have := lt i hi
      omega
  refine ⟨⟨⟨rfl, hw, fun d hd i j hi hj e => ?_, fun p hp _ _ => ?_⟩, fun p hp => ?_⟩, fun i j hi hj hc => ?_⟩
  · by_cases e1 : i = G.L.length <;> by_cases e2 : j = G.L.length
    · rw [e1, e2]
    · subst e1; exact (snd d hd j (by omega) e.symm).symm
    · subst e2; exact snd d hd i (by omega) e
    · rw [hold i (by omega), hold j (by omega)] at e
      exact h.inv.snd d (restr d hd) i j (by omega) (by omega) e
  · have hr := h.rng p hp
    unfold inR at hr
    rw [hold _ (by omega), hold _ (by omega)]
    exact h.inv.has p hp hr.1 hr.2
  · have hr := h.rng p hp
    unfold inR at hr ⊢
    omega
  · -- closed
    have old : ∀ i j (hi : i < G.L.length) (hj : j < G.L.length), Cg G'.L.length G'.c G.L[i] G.L[j] → G.c i = G.c j := fun i j hi hj hc =>
      hcl i j hi hj ⟨hc.1, hc.2.1, okk i hi, okk j hj, by rw [← kidCs_same (okk i hi) hold, ← kidCs_same (okk j hj) hold]; exact hc.2.2.2.2⟩
    have withNew : ∀ i (hi : i < G.L.length), Cg G'.L.length G'.c G.L[i] nd → G'.c i = G'.c G.L.length := fun i hi hc => by
      have hb : cgB G.c (G.L.getD i nd0) nd = true := by
        rw [getD_of hi, cgB_iff]
        exact ⟨hc.1, hc.2.1, by rw [← kidCs_same (okk i hi) hold, ← kidCs_same hk hold]; exact hc.2.2.2.2⟩
      rcases hnew with ⟨q, hq, hcq, eq⟩ | ⟨hno, _⟩
      · rw [hold i hi, eq]
        refine hcl i q hi hq ?_
        have := cgB_trans hb (cgB_symm hcq)
        rw [getD_of hi, getD_of hq, cgB_iff] at this
        exact ⟨this.1, this.2.1, okk i hi, okk q hq, this.2.2⟩
      · rw [hno i hi] at hb; cases hb
    by_cases e1 : i = G.L.length <;> by_cases e2 : j = G.L.length
    · rw [e1, e2]
    · subst e1
      rw [last, get j (by omega)] at hc
      exact (withNew j (by omega) hc.symm).symm
    · subst e2
      rw [last, get i (by omega)] at hc
      exact withNew i (by omega) hc
    · rw [get i (by omega), get j (by omega)] at hc
      rw [hold i (by omega), hold j (by omega)]
      exact old i j (by omega) (by omega) hc
theorem CInv.addI {ps : List (Int × Int)} {G : EG} (h : CInv ps G) (hcl : Closed G) {nd : Nd} (hok : NdOk nd) : CInv ps (addG G nd) ∧ Closed (addG G nd) := by
  have hG := h.inv.wf
  have hW := addG_wf hG hok
  unfold addG at hW ⊢
  split
  · exact ⟨h, hcl⟩
  · rename_i hz
    rw [if_neg hz] at hW
    split
    · exact ⟨h, hcl⟩
    · rename_i hs
      rw [hs] at hW
      dsimp only at hW
      split
      · exact ⟨h, hcl⟩
      · rename_i hb
        rw [if_neg hb] at hW
        have hcn : G.c G.L.length = G.L.length := hG.wf.out _ (Nat.le_refl _)
        have hk := (add_op hz).2.2
        split
        · rename_i ho
          rw [ho] at hW
          refine h.grow hcl hW rfl hk (fun _ _ => rfl) (.inr ⟨fun i hi => ?_, hcn⟩)
          exact find_range_none.1 ho i hi
        · rename_i i hi
          rw [hi] at hW
          obtain ⟨h1, h2, _⟩ := older_some hi
          have hlt := hG.wf.named.lt h1
          have hmin : min (G.c i) (G.c G.L.length) = G.c i := by omega
          have hmax : max (G.c i) (G.c G.L.length) = G.L.length := by omega
          refine h.grow hcl hW rfl hk (fun q hq => ?_) (.inl ⟨i, h1, h2, ?_⟩)
          · have := hG.wf.named.lt hq
            show joinc G.c _ _ q = G.c q
            unfold joinc
            rw [if_neg]
            simp only [cgStep, Int.toNat_natCast, hmax]
            omega
          · show joinc G.c i G.L.length G.L.length = G.c i
            unfold joinc
            rw [if_pos (by omega), hmin]
theorem CInv.isCl {ps : List (Int × Int)} {G : EG} (h : CInv ps G) (hcl : Closed G) : IsCl G.L ps G.c :=
  ⟨h.inv.wf.wf.named, ⟨h.inv.has, hcl⟩, fun d hd i j hi hj e => h.inv.snd d ⟨hd.pair, hd.cong⟩ i j hi hj e⟩
end Go.Proofs.Ytigambcefdeaoaa
