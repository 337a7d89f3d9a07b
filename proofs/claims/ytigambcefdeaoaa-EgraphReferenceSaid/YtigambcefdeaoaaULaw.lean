/-
  The generated nodes make a graph; unions and rebuildings make the congruence closure, in whatever order. Plain Lean: no program in sight.
-/
import Derived.Test.YtigambcefdeaoaaAddA
import Derived.Test.YtigambcefdeaoaaFGr
namespace Go.Proofs.Ytigambcefdeaoaa

theorem goodSort_gen {n : Nat} (h : n = 1 ∨ (4 ≤ n ∧ n ≤ 24) ∨ n = 27 ∨ n = 28 ∨ n = 29) (L : List Nd) (imm : Int) (kids : List Int) :
    goodSortF L n imm kids ((List.range (arityF n).1.toNat).map fun (i : Nat) => operandSortF n i) ≠ 0 := by
  match n, h with
  | 1, _ | 4, _ | 5, _ | 6, _ | 7, _ | 8, _ | 9, _ | 10, _ | 11, _ | 12, _ | 13, _ | 14, _ | 15, _ | 16, _ | 17, _ | 18, _ | 19, _ | 20, _ | 21, _ | 22, _ | 23, _ | 24, _ | 27, _ | 28, _ | 29, _ =>
    simp [goodSortF, arityF, operandSortF, pSortF, sortIfF, allOne, List.range_succ]
  | 0, h | 2, h | 3, h | 25, h | 26, h => omega
  | n + 30, h => omega

theorem op2F_nat (values : Bool) (x : Int) : ∃ n : Nat, op2F values x = n ∧ (n = 1 ∨ (4 ≤ n ∧ n ≤ 24) ∨ n = 27 ∨ n = 28 ∨ n = 29) := by
  have h1 := op2F_range values x
  have h2 : op2F values x = 1 ∨ (4 ≤ op2F values x ∧ op2F values x ≤ 29 ∧ op2F values x ≠ 25 ∧ op2F values x ≠ 26) := by
    unfold op2F
    have a := op1F_range values x
    have b := op1F_ne values x
    split
    · exact .inl rfl
    · exact .inr ⟨a.1, a.2, b.1, b.2⟩
  obtain ⟨n, hn⟩ := Int.eq_ofNat_of_zero_le (show 0 ≤ op2F values x by omega)
  exact ⟨n, hn, by omega⟩
theorem imm_valid (values : Bool) (x : Int) : validImmF (op2F values x) (imm4F (op2F values x) x (imm3F (op2F values x) x (imm2F x))) = true := by
  have h3 := Int.emod_nonneg (x.tdiv 5) (show (2 : Int) ≠ 0 by omega)
  have h4 := Int.emod_lt_of_pos (x.tdiv 5) (show (0 : Int) < 2 by omega)
  have h0 : op2F values x ≠ 1 → imm2F x = 0 := fun h => by
    unfold op2F at h
    unfold imm2F
    split at h
    · exact absurd rfl h
    · rename_i hx; rw [if_neg hx]
  obtain ⟨n, hn, hr⟩ := op2F_nat values x
  rw [hn] at h0 ⊢
  generalize (x.tdiv 5) % 2 = y at *
  unfold validImmF imm4F imm3F maxImmF
  by_cases e1 : n = 1
  · subst e1; simp
  have z := h0 (by omega)
  by_cases e27 : n = 27
  · subst e27; simp; omega
  by_cases e23 : n = 23
  · subst e23; simp; omega
  by_cases e28 : n = 28
  · subst e28; simp; omega
  have q1 : ¬ (n : Int) = 1 := by omega
  have q27 : ¬ (n : Int) = 27 := by omega
  have q23 : ¬ (n : Int) = 23 := by omega
  have q28 : ¬ (n : Int) = 28 := by omega
  have q2 : ¬ (n : Int) = 2 := by omega
  have q3 : ¬ (n : Int) = 3 := by omega
  have q30 : ¬ (n : Int) = 30 := by omega
  have q31 : ¬ (n : Int) = 31 := by omega
  have q25 : ¬ (n : Int) = 25 := by omega
  simp [q1, q27, q23, q28, q2, q3, q30, q31, q25, z]
theorem kidsTo_sorts (out : List Nd) (op x : Int) (j : Nat) (hb : ∃ r, out = baseN ++ r) : kidsOk (sortsF out) (kidsTo out op x j) = true ∧ kidSorts (sortsF out) (kidsTo out op x j) = (List.range j).map fun (i : Nat) => operandSortF op i := by
  obtain ⟨r, hr⟩ := hb
  have sp := fun (i : Nat) => ofF_spec out (operandSortF op i) ((seedsF x).getD i 0) (by rw [hr]; exact idxs_base r _ (operandSort_cases op i))
  constructor
  · unfold kidsOk kidsTo
    rw [List.all_eq_true]
    intro y hy
    obtain ⟨i, _, rfl⟩ := List.mem_map.1 hy
    rw [kidOk_iff, sortsF_len]
    refine ⟨(sp i).1, (sp i).2.1, ?_⟩
    rw [(sp i).2.2]
    rcases operandSort_cases op i with h | h <;> omega
  · unfold kidSorts kidsTo
    rw [List.map_map]
    apply List.map_congr_left
    intro i _
    exact (sp i).2.2
theorem nodeOf_sort (values : Bool) (out : List Nd) (x : Int) (hb : ∃ r, out = baseN ++ r) : sortsStep (out ++ [nodeOf values out x]) (sortsF out) (nodeOf values out x) ≠ 0 := by
  obtain ⟨n, hn, hr⟩ := op2F_nat values x
  have hv := imm_valid values x
  unfold sortsStep
  obtain ⟨h1, h2⟩ := kidsTo_sorts out (op2F values x) x (arityF (op2F values x)).1.toNat hb
  have h1' : kidsOk (sortsF out) (nodeOf values out x).kids = true := h1
  rw [if_pos h1']
  show nodeSortF _ (op2F values x) (imm4F (op2F values x) x (imm3F (op2F values x) x (imm2F x))) (kidsTo out (op2F values x) x (arityF (op2F values x)).1.toNat) (kidSorts (sortsF out) (kidsTo out (op2F values x) x (arityF (op2F values x)).1.toNat)) ≠ 0
  rw [h2]
  unfold nodeSortF
  have ha := arity_small (op2F values x) (by omega) (by omega)
  have hbad : badNode (op2F values x) (imm4F (op2F values x) x (imm3F (op2F values x) x (imm2F x))) (kidsTo out (op2F values x) x (arityF (op2F values x)).1.toNat) = false := by
    unfold badNode
    rw [hv, ha.2.2]
    simp [kidsTo]
    omega
  rw [hbad]
  simp only [Bool.false_eq_true, if_false]
  rw [hn]
  exact goodSort_gen hr _ _ _
structure GoodN (out : List Nd) : Prop where
  base : ∃ r, out = baseN ++ r
  srt : allSorted out
  dif : nodup out
theorem allSorted_snoc {out : List Nd} {nd : Nd} (h : allSorted out) (hn : sortsStep (out ++ [nd]) (sortsF out) nd ≠ 0) : allSorted (out ++ [nd]) := by
  intro i hi
  have hl := sortsF_len out
  rw [sortsF_snoc]
  by_cases e : i = out.length
  · subst e
    simp [List.getD, ← hl]
    exact hn
  · have hi' : i < out.length := by simp at hi; omega
    rw [List.getD, List.getElem?_append_left (by omega), ← List.getD]
    exact h i hi'
theorem nodup_snoc {out : List Nd} {nd : Nd} (h : nodup out) (hn : ∀ x ∈ out, x ≠ nd) : nodup (out ++ [nd]) := by
  intro i j hi hj hij
  have hi' : i < out.length := by simp at hj; omega
  rw [List.getElem_append_left hi']
  by_cases e : j = out.length
  · subst e; simp; exact hn _ (List.getElem_mem hi')
  · have hj' : j < out.length := by simp at hj; omega
    rw [List.getElem_append_left hj']; exact h i j hi' hj' hij
theorem GoodN.step {out : List Nd} (h : GoodN out) (values : Bool) (x : Int) : GoodN (nodesStep values out x) := by
  have hb := nodesStep_base values out x h.base
  refine ⟨hb, ?_, ?_⟩
  · unfold nodesStep
    split
    · exact h.srt
    · exact allSorted_snoc h.srt (nodeOf_sort values out x h.base)
  · unfold nodesStep
    split
    · exact h.dif
    · rename_i hn
      refine nodup_snoc h.dif (fun y hy e => hn ?_)
      rw [List.any_eq_true]
      exact ⟨y, hy, by rw [sameNd_iff]; exact e⟩
theorem goodN_base : GoodN baseN := by
  refine ⟨⟨[], by simp⟩, fun i hi => ?_, fun i j hi hj hij => ?_⟩
  · have h3 : i < 3 := hi
    match i, h3 with
    | 0, _ => decide +kernel
    | 1, _ => decide +kernel
    | 2, _ => decide +kernel
  · have : ∀ i, i < 3 → ∀ j, j < 3 → i < j → baseN.getD i nd0 ≠ baseN.getD j nd0 := by
      intro i hi j hj hij
      rcases i with _ | _ | _ | i <;> rcases j with _ | _ | _ | j <;> first | omega | simp [baseN]
    have := this i hi j hj hij
    rwa [getD_of hi, getD_of hj] at this
theorem nodesF_goodN (values : Bool) (l : List Int) : GoodN (nodesF values l) := foldl_inv GoodN (nodesStep values) _ _ goodN_base (fun _ _ _ h => h.step values _)
theorem nodesF_wf {l : List Int} (values : Bool) (hl : ∀ x ∈ l, I64 x) : GWf (newG (nodesF values l)) := by
  have h := nodesF_goodN values l
  exact newG_wf (by have := nodesF_len values l; omega) h.srt (nodesF_good values l hl).ok h.dif

/-! What unions and rebuildings make -/
structure RespP (L : List Nd) (D : Int × Int → Prop) (d : Nat → Nat) : Prop where
  pair : ∀ p, D p → inR L.length p.1 → inR L.length p.2 → d p.1.toNat = d p.2.toNat
  cong : ∀ i j (hi : i < L.length) (hj : j < L.length), Cg L.length d L[i] L[j] → d i = d j
structure UInv (L : List Nd) (D : Int × Int → Prop) (G : EG) : Prop where
  eqL : G.L = L
  wf : GWf G
  snd : ∀ d, RespP L D d → ∀ i j, i < L.length → j < L.length → G.c i = G.c j → d i = d j
  has : ∀ p, D p → inR L.length p.1 → inR L.length p.2 → G.c p.1.toNat = G.c p.2.toNat
theorem UInv.new {L : List Nd} (h : GWf (newG L)) : UInv L (fun _ => False) (newG L) := ⟨rfl, h, fun _ _ i j _ _ e => by have : i = j := e; rw [this], fun _ f => f.elim⟩
theorem RespP.mono {L : List Nd} {D E : Int × Int → Prop} {d : Nat → Nat} (h : RespP L E d) (hD : ∀ p, D p → E p ∨ E (p.2, p.1)) : RespP L D d :=
  ⟨fun p hp h1 h2 => by
    rcases hD p hp with q | q
    · exact h.pair p q h1 h2
    · exact (h.pair _ q h2 h1).symm, h.cong⟩
theorem UInv.same {L : List Nd} {D E : Int × Int → Prop} {G : EG} (h : UInv L D G) (h1 : ∀ p, D p → E p ∨ E (p.2, p.1)) (h2 : ∀ p, E p → D p ∨ D (p.2, p.1)) : UInv L E G :=
  ⟨h.eqL, h.wf, fun d hd => h.snd d (hd.mono h1), fun p hp a b => by
    rcases h2 p hp with q | q
    · exact h.has p q a b
    · exact (h.has _ q b a).symm⟩
theorem UInv.join {L : List Nd} {D : Int × Int → Prop} {G : EG} (h : UInv L D G) {a b : Nat} (ha : a < L.length) (hb : b < L.length) {d : Nat → Nat} (hd : RespP L D d) (hab : d a = d b) : ∀ i j, i < L.length → j < L.length → joinc G.c a b i = joinc G.c a b j → d i = d j := by
  intro i j hi hj he
  rcases joinc_eq he with h1 | ⟨h1, h2⟩ | ⟨h1, h2⟩
  · exact h.snd d hd i j hi hj h1
  · rw [h.snd d hd i a hi ha h1, h.snd d hd j b hj hb h2, hab]
  · rw [h.snd d hd i b hi hb h1, h.snd d hd j a hj ha h2, hab]
theorem UInv.cg {L : List Nd} {D : Int × Int → Prop} {G : EG} (h : UInv L D G) {a b : Nd} (hc : Cg L.length G.c a b) {d : Nat → Nat} (hr : RespP L D d) : Cg L.length d a b := by
  obtain ⟨h1, h2, h3, h4, h5⟩ := hc
  refine ⟨h1, h2, h3, h4, ?_⟩
  have hl : a.kids.length = b.kids.length := by simpa [kidCs] using congrArg List.length h5
  apply List.ext_getElem
  · simp [kidCs, hl]
  · intro i hi hi'
    have e := List.getElem_of_eq h5 (i := i) (by simpa [kidCs] using hi)
    have ka := okKids_get h3 (i := i) (by simpa [kidCs] using hi)
    have kb := okKids_get h4 (i := i) (by simpa [kidCs] using hi')
    simp only [kidCs, List.getElem_map] at e ⊢
    exact h.snd d hr _ _ (by omega) (by omega) e
theorem UInv.uni {L : List Nd} {D : Int × Int → Prop} {G : EG} (h : UInv L D G) {s : Stp} (hs : uniOk G s = true) : UInv L (fun p => D p ∨ p = (s.l, s.r)) (uniG G s) := by
  have hs' := hs
  simp only [uniOk, decide_eq_true_eq] at hs'
  obtain ⟨a1, a2, a3, a4, _⟩ := hs'
  rw [h.eqL] at a2 a4
  have hw := uniG_wf (s := s) h.wf
  by_cases hc : G.c s.l.toNat = G.c s.r.toNat
  · have e : uniG G s = G := by unfold uniG uniNew; rw [hs]; simp [hc]
    rw [e] at hw ⊢
    refine ⟨h.eqL, hw, fun d hd => h.snd d (hd.mono (fun p hp => .inl (.inl hp))), fun p hp q1 q2 => ?_⟩
    rcases hp with hp | rfl
    · exact h.has p hp q1 q2
    · exact hc
  · have e : uniG G s = G.merge s := by unfold uniG uniNew; rw [hs]; simp [hc]
    rw [e] at hw ⊢
    refine ⟨h.eqL, hw, fun d hd => ?_, fun p hp q1 q2 => ?_⟩
    · exact h.join (a := s.l.toNat) (b := s.r.toNat) (by omega) (by omega) (hd.mono (fun p hp => .inl (.inl hp))) (hd.pair (s.l, s.r) (.inr rfl) ⟨a1, a2⟩ ⟨a3, a4⟩)
    · rcases hp with hp | rfl
      · exact joinc_keeps (h.has p hp q1 q2)
      · exact joinc_pair (c := G.c) s.l.toNat s.r.toNat
theorem UInv.rebuilt {L : List Nd} {D : Int × Int → Prop} {G G' : EG} {n : Nat} (hr : Reb G n G') (h : UInv L D G) : UInv L D G' ∧ reb G'.c G'.L = none := by
  induction hr with
  | done e => exact ⟨h, e⟩
  | @step G G' i j n e _ ih =>
    refine ih ?_
    obtain ⟨h1, h2, h3, h4⟩ := reb_some e
    have hw := (h.wf.rebMerge e).1
    have hL := h.eqL
    rw [hL] at h1
    refine ⟨h.eqL, hw, fun d hd => ?_, fun p hp q1 q2 => joinc_keeps (h.has p hp q1 q2)⟩
    refine h.join (a := i) (b := j) (by omega) h1 hd ?_
    have hcg := h.wf.wf.cg (i := i) (j := j) (by rw [hL]; omega) (by rw [hL]; exact h1) h3
    simp only [hL] at hcg
    exact hd.cong i j (by omega) h1 (h.cg hcg hd)
theorem UInv.resp {L : List Nd} {D : Int × Int → Prop} {G : EG} (h : UInv L D G) (hr : reb G.c G.L = none) : RespP L D G.c := by
  refine ⟨h.has, fun i j hi hj hc => ?_⟩
  have hL := h.eqL
  subst hL
  exact h.wf.wf.closed hr hi hj hc
theorem UInv.le {L : List Nd} {D : Int × Int → Prop} {G G' : EG} (h : UInv L D G) (h' : UInv L D G') (hr : reb G.c G.L = none) {k : Nat} (hk : k < L.length) : G.c k ≤ G'.c k := by
  have hn := h'.wf.wf.named
  rw [h'.eqL] at hn
  have hn2 := h.wf.wf.named
  rw [h.eqL] at hn2
  have := h'.snd G.c (h.resp hr) k (G'.c k) hk (hn.lt hk) (hn.idem k hk).symm
  rw [this]
  exact hn2.le _ (hn.lt hk)
theorem UInv.unique {L : List Nd} {D : Int × Int → Prop} {G G' : EG} (h : UInv L D G) (h' : UInv L D G') (hr : reb G.c G.L = none) (hr' : reb G'.c G'.L = none) {k : Nat} (hk : k < L.length) : G.c k = G'.c k :=
  Nat.le_antisymm (h.le h' hr hk) (h'.le h hr' hk)
theorem UInv.findEq {L : List Nd} {D : Int × Int → Prop} {G G' : EG} (h : UInv L D G) (h' : UInv L D G') (hr : reb G.c G.L = none) (hr' : reb G'.c G'.L = none) (i : Int) : findF G i = findF G' i := by
  unfold findF
  rw [h.eqL, h'.eqL]
  split
  · rename_i hi
    rw [h.unique h' hr hr' (by omega)]
  · rfl
end Go.Proofs.Ytigambcefdeaoaa
