/-
  A node added to an e-graph, in plain Lean. No program in sight.
-/
import Derived.Test.YtigambcefdeaoaaRebP
namespace Go.Proofs.Ytigambcefdeaoaa

/-- The sort that a node would have at the end. -/
def addSort (G : EG) (nd : Nd) : Int := sortsStep (G.L ++ [nd]) (sortsF G.L) nd
theorem sortsF_len (L : List Nd) : (sortsF L).length = L.length := by unfold sortsF; exact sortsTo_len _ _
theorem sortsF_snoc (L : List Nd) (nd : Nd) : sortsF (L ++ [nd]) = sortsF L ++ [sortsStep (L ++ [nd]) (sortsF L) nd] := by
  have h := sorts_snoc (L := L ++ [nd]) (k := L.length) (by simp)
  have e1 : (L ++ [nd]).take L.length = L := by simp
  have e2 : (L ++ [nd])[L.length]'(by simp) = nd := by simp
  rw [e1, e2] at h
  rw [h]
  congr 2
  rw [sorts_step (L := L ++ [nd]) (q := L.length) (by simp), e2]
  congr 1
  rw [← sorts_take (L := L ++ [nd]) (k := L.length) (by simp), e1]
theorem addSort_get (G : EG) (nd : Nd) : (sortsF (G.L ++ [nd])).getD G.L.length 0 = addSort G nd := by
  rw [sortsF_snoc]
  have := sortsF_len G.L
  simp [List.getD, addSort, ← this]

/-- What Add finds: the first identical node. -/
def sameAt (G : EG) (nd : Nd) : Option Nat := idxF G.L (ndKey nd)
/-- The first congruent node. -/
def olderOf (G : EG) (nd : Nd) : Option Nat := (List.range G.L.length).find? fun i => cgB G.c (G.L.getD i nd0) nd
def addG (G : EG) (nd : Nd) : EG :=
  if addSort G nd = 0 then G else
  match sameAt G nd with
  | some _ => G
  | none => if 2000 ≤ G.L.length then G else
    match olderOf G nd with
    | none => G.add nd
    | some i => (G.add nd).merge (cgStep i G.L.length)
def addR (G : EG) (nd : Nd) : Int × Int :=
  if addSort G nd = 0 then (0, 1) else
  match sameAt G nd with
  | some i => ((i : Int), 0)
  | none => if 2000 ≤ G.L.length then (0, 8) else ((G.L.length : Int), 0)

theorem add_op {G : EG} {nd : Nd} (h : addSort G nd ≠ 0) : (1 ≤ nd.op ∧ nd.op ≤ 31) ∧ nd.kids.length ≤ 33 ∧ okKids G.L.length nd.kids = true := by
  unfold addSort sortsStep at h
  split at h
  · rename_i hok
    refine ⟨sort_op h, sort_klen h (by simp [kidSorts]), ?_⟩
    have hm := kidsOk_mem hok
    rw [sortsF_len] at hm
    simp only [okKids, List.all_eq_true, Bool.and_eq_true, decide_eq_true_eq]
    exact fun x hx => hm x hx
  · exact absurd rfl h
theorem okKids_i64 {n : Nat} {ks : List Int} (h : okKids n ks = true) (hn : n ≤ 2000) : ∀ x ∈ ks, I64 x := by
  simp only [okKids, List.all_eq_true, Bool.and_eq_true, decide_eq_true_eq] at h
  intro x hx
  have := h x hx
  unfold I64; omega

theorem same_some {G : EG} (hg : GWf G) {nd : Nd} (hok : NdOk nd) (h : addSort G nd ≠ 0) {i : Nat} (hs : sameAt G nd = some i) : ∃ hi : i < G.L.length, G.L[i] = nd := by
  unfold sameAt idxF at hs
  obtain ⟨h1, h2, _⟩ := find_range.1 hs
  obtain ⟨ho, hkl, hkk⟩ := add_op h
  refine ⟨h1, ?_⟩
  rw [getD_of h1, decide_eq_true_eq] at h2
  have oi := hg.op h1
  have ni := hg.wf.ok _ (List.getElem_mem h1)
  obtain ⟨a, b, c⟩ := keyE_inj (by omega) ni.2.1 (by omega) hok.2.1 (okKids_i64 (okKids_mono (hg.wf.kids i h1) (show i ≤ G.L.length by omega)) hg.wf.small) (okKids_i64 hkk hg.wf.small) h2
  generalize G.L[i] = x at *
  obtain ⟨x1, x2, x3⟩ := x
  obtain ⟨y1, y2, y3⟩ := nd
  simp at a b c
  rw [a, b, c]
theorem same_none {G : EG} {nd : Nd} (hs : sameAt G nd = none) {i : Nat} (hi : i < G.L.length) : G.L[i] ≠ nd := by
  unfold sameAt idxF at hs
  intro e
  have := find_range_none.1 hs i hi
  rw [getD_of hi, e] at this
  simp at this
theorem GWf.addWf {G : EG} (hg : GWf G) {nd : Nd} (hok : NdOk nd) (h : addSort G nd ≠ 0) (hs : sameAt G nd = none) (hn : G.L.length < 2000) : GWf (G.add nd) := by
  obtain ⟨ho, hkl, hkk⟩ := add_op h
  have hc : G.c G.L.length = G.L.length := hg.wf.out _ (Nat.le_refl _)
  refine ⟨⟨?_, fun k hk => hg.wf.out k (by simp [EG.add] at hk; omega), fun j hj => ?_, fun x hx => ?_, by simp [EG.add]; omega, fun i j hi hj hij => ?_⟩, fun i hi => ?_⟩
  · refine ⟨fun k hk => ?_, fun k hk => ?_⟩
    · simp [EG.add] at hk
      by_cases e : k = G.L.length
      · subst e; exact Nat.le_of_eq hc
      · exact hg.wf.named.le k (by omega)
    · simp [EG.add] at hk
      by_cases e : k = G.L.length
      · subst e; show G.c (G.c _) = G.c _; rw [hc]; exact hc
      · exact hg.wf.named.idem k (by omega)
  · by_cases e : j = G.L.length
    · subst e
      simpa [EG.add] using hkk
    · have hj' : j < G.L.length := by simp [EG.add] at hj; omega
      have := hg.wf.kids j hj'
      simp only [EG.add]
      rw [List.getElem_append_left hj']; exact this
  · simp only [EG.add, List.mem_append, List.mem_singleton] at hx
    rcases hx with hx | rfl
    · exact hg.wf.ok x hx
    · exact hok
  · simp [EG.add] at hj
    have hi' : i < G.L.length := by omega
    simp only [EG.add]
    rw [List.getElem_append_left hi']
    by_cases e : j = G.L.length
    · subst e; simp; exact same_none hs hi'
    · rw [List.getElem_append_left (by omega)]; exact hg.wf.nodup i j hi' (by omega) hij
  · have hl := sortsF_len G.L
    simp only [EG.add] at hi ⊢
    rw [sortsF_snoc]
    by_cases e : i = G.L.length
    · subst e
      simp [List.getD, ← hl]
      have := h
      unfold addSort at this
      exact this
    · have hi' : i < G.L.length := by simp at hi; omega
      rw [List.getD, List.getElem?_append_left (by omega), ← List.getD]
      exact hg.srt i hi'
theorem older_some {G : EG} {nd : Nd} {i : Nat} (h : olderOf G nd = some i) : i < G.L.length ∧ cgB G.c (G.L.getD i nd0) nd = true ∧ ∀ k, k < i → cgB G.c (G.L.getD k nd0) nd = false := find_range.1 h
theorem addG_wf {G : EG} (hg : GWf G) {nd : Nd} (hok : NdOk nd) : GWf (addG G nd) := by
  unfold addG
  split
  · exact hg
  · rename_i h
    split
    · exact hg
    · rename_i hs
      split
      · exact hg
      · have hw := hg.addWf hok h hs (by omega)
        split
        · exact hw
        · rename_i i hi
          exact ⟨hw.wf.merge (by simp [cgStep, EG.add]; have := (older_some hi).1; omega) (by simp [cgStep, EG.add]), hw.srt⟩

theorem opL_at {L : List Nd} {a : Int × Int} {j : Nat} (hj : j < (opL L a).length) : ∃ k : Nat, (opL L a)[j] = (k : Int) ∧ k < L.length ∧ (L.getD k nd0).op = a.1 ∧ (L.getD k nd0).imm = a.2 := by
  have hm := List.getElem_mem hj
  unfold opL at hm
  obtain ⟨k, hk, e⟩ := List.mem_map.1 hm
  have h2 := List.mem_filter.1 hk
  have h3 := h2.2
  rw [decide_eq_true_eq] at h3
  exact ⟨k, e.symm, List.mem_range.1 h2.1, h3.1, h3.2⟩
theorem opL_mem {L : List Nd} {a : Int × Int} {k : Nat} (h : k < L.length) (h1 : (L.getD k nd0).op = a.1) (h2 : (L.getD k nd0).imm = a.2) : (k : Int) ∈ opL L a := by
  unfold opL
  exact List.mem_map.2 ⟨k, List.mem_filter.2 ⟨List.mem_range.2 h, by rw [decide_eq_true_eq]; exact ⟨h1, h2⟩⟩, rfl⟩
theorem opL_len (L : List Nd) (a : Int × Int) : (opL L a).length ≤ L.length := by
  unfold opL
  rw [List.length_map]
  exact Nat.le_trans (List.length_filter_le _ _) (by simp)
theorem opL_sorted (L : List Nd) (a : Int × Int) : (opL L a).Pairwise (· < ·) := by
  unfold opL
  rw [List.pairwise_map]
  exact ((List.pairwise_lt_range (n := L.length)).filter _).imp (fun h => by omega)
theorem opL_lt {L : List Nd} {a : Int × Int} {i j : Nat} (hi : i < (opL L a).length) (hj : j < (opL L a).length) (h : (opL L a)[i] < (opL L a)[j]) : i < j := by
  rcases Nat.lt_or_ge i j with q | q
  · exact q
  · rcases Nat.lt_or_ge j i with q2 | q2
    · have := List.pairwise_iff_getElem.1 (opL_sorted L a) j i hj hi q2; omega
    · have : i = j := by omega
      subst this; omega
theorem cgB_kids {c : Nat → Nat} {a b : Nd} (h1 : a.op = b.op) (h2 : a.imm = b.imm) : cgB c a b = decide (ckids c a.kids = ckids c b.kids) := by
  rw [Bool.eq_iff_iff, cgB_iff, decide_eq_true_eq, ckids_eq]
  exact ⟨fun h => h.2.2, fun h => ⟨h1, h2, h⟩⟩
theorem older_at {G : EG} {nd : Nd} {j k : Nat} (hj : j < (opL G.L (nd.op, nd.imm)).length) (hk : (opL G.L (nd.op, nd.imm))[j] = (k : Int)) (hc : ckids G.c (G.L.getD k nd0).kids = ckids G.c nd.kids)
    (hall : ∀ q (h : q < (opL G.L (nd.op, nd.imm)).length), q < j → ckids G.c (G.L.getD ((opL G.L (nd.op, nd.imm))[q]).toNat nd0).kids ≠ ckids G.c nd.kids) : olderOf G nd = some k := by
  obtain ⟨k', e, h1, h2, h3⟩ := opL_at hj
  obtain rfl : k = k' := by omega
  unfold olderOf
  rw [find_range]
  refine ⟨h1, by rw [cgB_kids h2 h3]; exact decide_eq_true hc, fun q hq => ?_⟩
  cases hcg : cgB G.c (G.L.getD q nd0) nd with
  | false => rfl
  | true =>
    obtain ⟨a1, a2, a3⟩ := cgB_iff.1 hcg
    obtain ⟨p, hp, ep⟩ := List.mem_iff_getElem.1 (opL_mem (L := G.L) (a := (nd.op, nd.imm)) (k := q) (by omega) a1 a2)
    have hlt := opL_lt hp hj (by rw [ep, hk]; omega)
    exact absurd (ckids_eq.2 a3) (by have := hall p hp hlt; rw [ep] at this; simpa using this)
theorem older_no {G : EG} {nd : Nd} (hall : ∀ q (h : q < (opL G.L (nd.op, nd.imm)).length), ckids G.c (G.L.getD ((opL G.L (nd.op, nd.imm))[q]).toNat nd0).kids ≠ ckids G.c nd.kids) : olderOf G nd = none := by
  unfold olderOf
  rw [find_range_none]
  intro q hq
  cases hcg : cgB G.c (G.L.getD q nd0) nd with
  | false => rfl
  | true =>
    obtain ⟨a1, a2, a3⟩ := cgB_iff.1 hcg
    obtain ⟨p, hp, ep⟩ := List.mem_iff_getElem.1 (opL_mem (L := G.L) (a := (nd.op, nd.imm)) (k := q) hq a1 a2)
    exact absurd (ckids_eq.2 a3) (by have := hall p hp; rw [ep] at this; simpa using this)
def olderI (G : EG) (nd : Nd) : Int := match olderOf G nd with
  | some k => (k : Int)
  | none => -1
end Go.Proofs.Ytigambcefdeaoaa
