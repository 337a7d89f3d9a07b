/-
  Searching two congruent nodes by keys, in plain Lean. No program in sight.
  A node inserted into an e-graph, in plain Lean, and the graph in memory behind it. No condition of its own.
  A new e-graph, in plain Lean: sorts of a list's beginning, equal nodes. No program in sight.
-/
import Derived.Test.YtigambcefdeaoaaMrgA
namespace Go.Proofs.Ytigambcefdeaoaa

/-- A good graph: well-formed, and each node has a sort. -/
structure GWf (G : EG) : Prop where
  wf : G.Wf
  srt : ∀ i, i < G.L.length → (sortsF G.L).getD i 0 ≠ 0

theorem sort_op {L : List Nd} {op imm : Int} {kids k : List Int} (h : nodeSortF L op imm kids k ≠ 0) : 1 ≤ op ∧ op ≤ 31 := by
  have h2 : (arityF op).2 = true := by
    cases e : (arityF op).2 with
    | true => rfl
    | false => exact absurd (by simp [nodeSortF, badNode, e]) h
  unfold arityF at h2
  (repeat' split at h2) <;> first | omega | cases h2
theorem sorts_step {L : List Nd} {q : Nat} (hq : q < L.length) : (sortsF L).getD q 0 = sortsStep L (sortsTo L q) L[q] := by
  unfold sortsF
  rw [sortsTo_pre L (show q + 1 ≤ L.length by omega) (show q < q + 1 by omega), sortsTo_succ L q hq]
  have hl := sortsTo_len L q
  rw [List.getD, List.getElem?_append_right (by omega), hl, Nat.sub_self]
  rfl
theorem GWf.op {G : EG} (h : GWf G) {i : Nat} (hi : i < G.L.length) : 1 ≤ G.L[i].op ∧ G.L[i].op ≤ 31 := by
  have := h.srt i hi
  rw [sorts_step hi] at this
  unfold sortsStep at this
  split at this
  · exact sort_op this
  · exact absurd rfl this

theorem sort_klen {L : List Nd} {op imm : Int} {kids k : List Int} (h : nodeSortF L op imm kids k ≠ 0) (hl : k.length = kids.length) : kids.length ≤ 33 := by
  unfold nodeSortF at h
  split at h
  · exact absurd rfl h
  · rename_i hb
    by_cases h30 : op = 30
    · subst h30
      simp [goodSortF, sortIfF] at h
      omega
    by_cases h31 : op = 31
    · subst h31
      simp [goodSortF, sortIfF] at h
      omega
    have h3 : (arityF op).1 ≤ 3 ∧ 0 ≤ (arityF op).1 := by
      unfold arityF
      (repeat' split) <;> first | omega | (exfalso; omega)
    have : (kids.length : Int) = (arityF op).1 := Decidable.byContradiction fun hne => hb (by simp [badNode, h3.2, hne])
    omega
theorem GWf.klen {G : EG} (h : GWf G) {i : Nat} (hi : i < G.L.length) : G.L[i].kids.length ≤ 33 := by
  have := h.srt i hi
  rw [sorts_step hi] at this
  unfold sortsStep at this
  split at this
  · exact sort_klen this (by simp [kidSorts])
  · exact absurd rfl this

/-- The key of a node for classes c. -/
def ck (c : Nat → Nat) (nd : Nd) : ByteArray := keyE nd.op nd.imm (ckids c nd.kids)
theorem ckids_eq {c : Nat → Nat} {a b : List Int} : ckids c a = ckids c b ↔ kidCs c a = kidCs c b := by
  have e : ∀ l : List Int, ckids c l = (kidCs c l).map fun (x : Nat) => (x : Int) := fun l => by simp [ckids, kidCs]
  rw [e, e]
  constructor
  · intro h
    have := congrArg (List.map Int.toNat) h
    simpa [List.map_map, Function.comp_def] using this
  · intro h; rw [h]
theorem GWf.ck_eq {G : EG} (h : GWf G) {i j : Nat} (hi : i < G.L.length) (hj : j < G.L.length) : ck G.c (G.L.getD i nd0) = ck G.c (G.L.getD j nd0) ↔ cgB G.c (G.L.getD i nd0) (G.L.getD j nd0) = true := by
  rw [getD_of hi, getD_of hj, cgB_iff]
  constructor
  · intro e
    have oi := h.op hi
    have oj := h.op hj
    have ni := h.wf.ok _ (List.getElem_mem hi)
    have nj := h.wf.ok _ (List.getElem_mem hj)
    have hr : ∀ q (hq : q < G.L.length), ∀ x ∈ ckids G.c G.L[q].kids, I64 x := by
      intro q hq x hx
      obtain ⟨y, hy, rfl⟩ := List.mem_map.1 hx
      have hk := h.wf.kids q hq
      simp only [okKids, List.all_eq_true, Bool.and_eq_true, decide_eq_true_eq] at hk
      have h1 := hk y hy
      have h2 := h.wf.named.le y.toNat (by omega)
      have := h.wf.small
      unfold I64; omega
    obtain ⟨a, b, d⟩ := keyE_inj (by omega) ni.2.1 (by omega) nj.2.1 (hr i hi) (hr j hj) e
    exact ⟨a, b, ckids_eq.1 d⟩
  · rintro ⟨a, b, d⟩
    unfold ck
    rw [a, b, ckids_eq.2 d]

/-- The first of j nodes by key. -/
def fm (c : Nat → Nat) (L : List Nd) (j : Nat) (s : ByteArray) : Option Nat := (List.range j).find? fun i => decide (ck c (L.getD i nd0) = s)
theorem fm_zero (c : Nat → Nat) (L : List Nd) : fm c L 0 = fun _ => none := by funext s; rfl
theorem fm_new {c : Nat → Nat} {L : List Nd} {j : Nat} (h : fm c L j (ck c (L.getD j nd0)) = none) : fm c L (j + 1) = fun s => if s = ck c (L.getD j nd0) then some j else fm c L j s := by
  funext s
  unfold fm at h ⊢
  rw [List.range_succ, List.find?_append]
  by_cases e : s = ck c (L.getD j nd0)
  · subst e
    rw [h, if_pos rfl]
    simp
  · rw [if_neg e]
    have e' : ¬ ck c (L.getD j nd0) = s := fun h => e h.symm
    rw [List.find?_cons_of_neg (by rw [decide_eq_true_iff]; exact e')]
    simp only [List.find?_nil, Option.or_none]
theorem fm_old {c : Nat → Nat} {L : List Nd} {j i : Nat} (h : fm c L j (ck c (L.getD j nd0)) = some i) : fm c L (j + 1) = fm c L j := by
  funext s
  unfold fm at h ⊢
  rw [List.range_succ, List.find?_append]
  by_cases e : s = ck c (L.getD j nd0)
  · subst e; rw [h]; rfl
  · have e' : ¬ ck c (L.getD j nd0) = s := fun h => e h.symm
    rw [List.find?_cons_of_neg (by rw [decide_eq_true_iff]; exact e')]
    simp only [List.find?_nil, Option.or_none]
theorem GWf.fm_first {G : EG} (h : GWf G) {j : Nat} (hj : j < G.L.length) : fm G.c G.L j (ck G.c (G.L.getD j nd0)) = firstCg G.c G.L j := by
  unfold fm firstCg
  have hp : ∀ i, i < j → (decide (ck G.c (G.L.getD i nd0) = ck G.c (G.L.getD j nd0))) = cgB G.c (G.L.getD i nd0) (G.L.getD j nd0) := by
    intro i hi
    rw [Bool.eq_iff_iff, decide_eq_true_iff]
    exact h.ck_eq (by omega) hj
  cases e : (List.range j).find? fun i => cgB G.c (G.L.getD i nd0) (G.L.getD j nd0) with
  | none =>
    rw [find_range_none] at e ⊢
    intro k hk; rw [hp k hk]; exact e k hk
  | some i =>
    rw [find_range] at e ⊢
    obtain ⟨h1, h2, h3⟩ := e
    exact ⟨h1, by rw [hp i h1]; exact h2, fun k hk => by rw [hp k (by omega)]; exact h3 k hk⟩
theorem fm_lt {c : Nat → Nat} {L : List Nd} {j i : Nat} {s : ByteArray} (h : fm c L j s = some i) : i < j := (find_range.1 h).1
theorem reb_at {c : Nat → Nat} {L : List Nd} {j i : Nat} (hj : j < L.length) (hall : ∀ q, q < j → rebAt c L q = none) (h : rebAt c L j = some (i, j)) : reb c L = some (i, j) := by
  unfold reb
  have : List.range L.length = List.range j ++ (List.range (L.length - j)).map (j + ·) := by rw [← List.range_add]; congr 1; omega
  rw [this, List.findSome?_append]
  have e1 : (List.range j).findSome? (rebAt c L) = none := by
    rw [List.findSome?_eq_none_iff]
    exact fun q hq => hall q (List.mem_range.1 hq)
  rw [e1]
  obtain ⟨m, hm⟩ : ∃ m, L.length - j = m + 1 := ⟨L.length - j - 1, by omega⟩
  rw [hm, List.range_succ_eq_map]
  simp [h]
theorem reb_no {c : Nat → Nat} {L : List Nd} (hall : ∀ q, q < L.length → rebAt c L q = none) : reb c L = none := by
  unfold reb
  rw [List.findSome?_eq_none_iff]
  exact fun q hq => hall q (List.mem_range.1 hq)
end Go.Proofs.Ytigambcefdeaoaa

namespace Go.Proofs.Ytigambcefdeaoaa
open Go.RowKit

/-- The graph with one node more. -/
def EG.add (G : EG) (nd : Nd) : EG := ⟨G.L ++ [nd], G.c, G.T⟩
theorem clL_snoc {L : List Nd} {c : Nat → Nat} {nd : Nd} (h : c L.length = L.length) : clL (L ++ [nd]) c = clL L c ++ [(L.length : Int)] := by
  unfold clL
  rw [List.length_append, List.length_singleton, List.range_succ, List.map_append]
  simp [h]
theorem memL_snoc {n : Nat} {c : Nat → Nat} (h : c n = n) {i : Nat} (hi : i < n) : memL (n + 1) c i = memL n c i := by
  unfold memL
  rw [List.range_succ, List.filter_append]
  have : ([n].filter fun k => c k == i) = [] := by rw [List.filter_eq_nil_iff]; intro x hx; simp at hx; subst hx; simp [h]; omega
  rw [this]; simp
theorem memL_last {n : Nat} {c : Nat → Nat} (h : c n = n) (hn : Named n c) : memL (n + 1) c n = [(n : Int)] := by
  unfold memL
  rw [List.range_succ, List.filter_append]
  have e1 : ((List.range n).filter fun k => c k == n) = [] := by
    rw [List.filter_eq_nil_iff]; intro x hx
    have hx := List.mem_range.1 hx
    have := hn.le x hx
    simp; omega
  have e2 : ([n].filter fun k => c k == n) = [n] := by simp [h]
  rw [e1, e2]; rfl
theorem scells_snoc {n : Nat} {c : Nat → Nat} (h : c n = n) (hn : Named n c) {ms : List (Option Addr × Nat)} (hl : ms.length = n) (A : Option Addr) (cp : Nat) : scells (n + 1) c (ms ++ [(A, cp)]) = scells n c ms ++ [.slice A 1 cp] := by
  unfold scells
  rw [List.range_succ, List.map_append]
  congr 1
  · apply List.map_congr_left
    intro i hi
    have hi := List.mem_range.1 hi
    rw [memL_snoc h hi]
    simp [List.getD, List.getElem?_append_left (show i < ms.length by omega)]
  · simp only [List.map_cons, List.map_nil, memL_last h hn]
    simp [List.getD, ← hl]
theorem opL_snoc (L : List Nd) (nd : Nd) (a : Int × Int) : opL (L ++ [nd]) a = if a = (nd.op, nd.imm) then opL L a ++ [(L.length : Int)] else opL L a := by
  unfold opL
  rw [List.length_append, List.length_singleton, List.range_succ, List.filter_append, List.map_append]
  have e1 : (List.range L.length).filter (fun k => decide (((L ++ [nd]).getD k nd0).op = a.1 ∧ ((L ++ [nd]).getD k nd0).imm = a.2)) = (List.range L.length).filter (fun k => decide ((L.getD k nd0).op = a.1 ∧ (L.getD k nd0).imm = a.2)) := by
    apply List.filter_congr
    intro k hk
    have hk := List.mem_range.1 hk
    rw [List.getD, List.getElem?_append_left hk, ← List.getD]
  have e2 : (L ++ [nd]).getD L.length nd0 = nd := by simp [List.getD]
  rw [e1]
  by_cases e : a = (nd.op, nd.imm)
  · rw [if_pos e]
    have : [L.length].filter (fun k => decide (((L ++ [nd]).getD k nd0).op = a.1 ∧ ((L ++ [nd]).getD k nd0).imm = a.2)) = [L.length] := by
      rw [List.filter_cons_of_pos (by rw [e2, e]; simp)]; rfl
    rw [this]; rfl
  · rw [if_neg e]
    have : [L.length].filter (fun k => decide (((L ++ [nd]).getD k nd0).op = a.1 ∧ ((L ++ [nd]).getD k nd0).imm = a.2)) = [] := by
      rw [List.filter_cons_of_neg]
      · rfl
      · rw [e2, decide_eq_true_iff]
        rintro ⟨h1, h2⟩
        exact e (Prod.ext h1.symm h2.symm)
    rw [this]; simp
theorem idxV_snoc {L : List Nd} {nd : Nd} (h : idxF L (ndKey nd) = none) : idxV (L ++ [nd]) = fun s => if s = ndKey nd then some (.int .i64 (L.length : Int)) else idxV L s := by
  funext s
  unfold idxV idxF at *
  rw [List.length_append, List.length_singleton, List.range_succ, List.find?_append]
  have e1 : ∀ s, (List.range L.length).find? (fun i => decide (ndKey ((L ++ [nd]).getD i nd0) = s)) = (List.range L.length).find? (fun i => decide (ndKey (L.getD i nd0) = s)) := by
    intro s
    have hp : ∀ i, i < L.length → decide (ndKey ((L ++ [nd]).getD i nd0) = s) = decide (ndKey (L.getD i nd0) = s) := fun i hi => by
      rw [List.getD, List.getElem?_append_left hi, ← List.getD]
    cases e : (List.range L.length).find? (fun i => decide (ndKey (L.getD i nd0) = s)) with
    | none => rw [find_range_none] at e ⊢; intro k hk; rw [hp k hk]; exact e k hk
    | some i =>
      rw [find_range] at e ⊢
      exact ⟨e.1, by rw [hp i e.1]; exact e.2.1, fun k hk => by rw [hp k (by omega)]; exact e.2.2 k hk⟩
  have e2 : (L ++ [nd]).getD L.length nd0 = nd := by simp [List.getD]
  rw [e1]
  by_cases e : s = ndKey nd
  · subst e
    rw [h, if_pos rfl, List.find?_cons_of_pos (by rw [e2]; simp)]
    rfl
  · rw [if_neg e, List.find?_cons_of_neg (by rw [e2, decide_eq_true_iff]; exact fun h => e h.symm)]
    simp

/-- Roles for new blocks, by ranges. -/
def paintL (ρ : Nat → Role) (n0 : Nat) (l : List (Nat × Role)) (k : Nat) : Role := if k < n0 then ρ k else match l.find? (fun p => decide (k < p.1)) with
  | some p => p.2
  | none => .no
theorem paintL_old {ρ : Nat → Role} {n0 : Nat} {l : List (Nat × Role)} {k : Nat} (h : k < n0) : paintL ρ n0 l k = ρ k := by unfold paintL; rw [if_pos h]
end Go.Proofs.Ytigambcefdeaoaa

namespace Go.Proofs.Ytigambcefdeaoaa

theorem nodeSort_congr {L L' : List Nd} {op imm : Int} {kids k : List Int} (h : ∀ q, kids = [q] → L.getD q.toNat ⟨0, 0, []⟩ = L'.getD q.toNat ⟨0, 0, []⟩) : nodeSortF L op imm kids k = nodeSortF L' op imm kids k := by
  unfold nodeSortF
  split
  · rfl
  · rename_i hb
    by_cases h25 : op = 25
    · subst h25
      have : kids.length = 1 := Decidable.byContradiction fun hne => hb (by
        have : ¬ (kids.length : Int) = 1 := by omega
        simp [badNode, arityF, this])
      obtain ⟨q, rfl⟩ := len1 this
      have e := h q rfl
      unfold goodSortF
      simp only [List.getD_cons_zero, e]
    · unfold goodSortF
      simp only [h25, if_false]
theorem sortsTo_congr {L L' : List Nd} {m : Nat} (h : ∀ q, q < m → L.getD q ⟨0, 0, []⟩ = L'.getD q ⟨0, 0, []⟩) : ∀ k, k ≤ m → sortsTo L k = sortsTo L' k
  | 0, _ => rfl
  | k + 1, hk => by
    have ih := sortsTo_congr h k (by omega)
    show sortsTo L k ++ _ = sortsTo L' k ++ _
    rw [ih, h k (by omega)]
    congr 2
    unfold sortsStep
    split
    · rename_i hok
      apply nodeSort_congr
      intro q hq
      have h1 := kidsOk_mem hok q (by rw [hq]; simp)
      rw [sortsTo_len] at h1
      exact h q.toNat (by omega)
    · rfl
theorem getD_take {L : List Nd} {m q : Nat} (h : q < m) : (L.take m).getD q ⟨0, 0, []⟩ = L.getD q ⟨0, 0, []⟩ := by
  rw [List.getD, List.getElem?_take_of_lt h, ← List.getD]
theorem sorts_take {L : List Nd} {k : Nat} (hk : k ≤ L.length) : sortsF (L.take k) = sortsTo L k := by
  unfold sortsF
  rw [show (L.take k).length = k by simp; omega]
  exact sortsTo_congr (m := k) (fun q hq => getD_take hq) k (Nat.le_refl _)
theorem sorts_take_get {L : List Nd} {i : Nat} (h : i < L.length) : (sortsF (L.take (i + 1))).getD i 0 = (sortsF L).getD i 0 := by
  rw [sorts_take (by omega)]
  unfold sortsF
  exact (sortsTo_pre L (by omega) (by omega)).symm
theorem sorts_snoc {L : List Nd} {k : Nat} (h : k < L.length) : sortsF (L.take k ++ [L[k]]) = sortsF (L.take k) ++ [(sortsF L).getD k 0] := by
  rw [← List.take_succ_eq_append_getElem h, sorts_take (by omega), sorts_take (by omega), sorts_step h, sortsTo_succ L k h]

/-- A new graph. -/
def newG (L : List Nd) : EG := ⟨L, id, []⟩
theorem newG_add {L : List Nd} {k : Nat} (h : k < L.length) : (newG (L.take k)).add L[k] = newG (L.take (k + 1)) := by
  unfold newG EG.add
  rw [List.take_succ_eq_append_getElem h]
def nodup (L : List Nd) : Prop := ∀ i j (hi : i < L.length) (hj : j < L.length), i < j → L[i] ≠ L[j]
def allSorted (L : List Nd) : Prop := ∀ i, i < L.length → (sortsF L).getD i 0 ≠ 0
theorem kids_of_sort {L : List Nd} (h : allSorted L) (j : Nat) (hj : j < L.length) : okKids j L[j].kids = true := by
  have := h j hj
  rw [sorts_step hj] at this
  unfold sortsStep at this
  split at this
  · rename_i hok
    have hm := kidsOk_mem hok
    rw [sortsTo_len] at hm
    simp only [okKids, List.all_eq_true, Bool.and_eq_true, decide_eq_true_eq]
    exact fun x hx => hm x hx
  · exact absurd rfl this
theorem newG_wf {L : List Nd} (hs : L.length ≤ 2000) (ha : allSorted L) (hok : ∀ nd ∈ L, NdOk nd) (hd : nodup L) : GWf (newG L) :=
  ⟨⟨Named.id _, fun _ _ => rfl, kids_of_sort ha, hok, hs, hd⟩, ha⟩
theorem ndKey_inj {L : List Nd} (ha : allSorted L) (hok : ∀ nd ∈ L, NdOk nd) (hs : L.length ≤ 2000) {i j : Nat} (hi : i < L.length) (hj : j < L.length) (h : ndKey L[i] = ndKey L[j]) : L[i] = L[j] := by
  have opr : ∀ q (hq : q < L.length), 0 ≤ L[q].op ∧ L[q].op < 256 := fun q hq => by
    have := ha q hq
    rw [sorts_step hq] at this
    unfold sortsStep at this
    split at this
    · have := sort_op this; omega
    · exact absurd rfl this
  have kr : ∀ q (hq : q < L.length), ∀ x ∈ L[q].kids, I64 x := fun q hq x hx => by
    have hk := kids_of_sort ha q hq
    simp only [okKids, List.all_eq_true, Bool.and_eq_true, decide_eq_true_eq] at hk
    have := hk x hx
    unfold I64; omega
  obtain ⟨a, b, c⟩ := keyE_inj (opr i hi) (hok _ (List.getElem_mem hi)).2.1 (opr j hj) (hok _ (List.getElem_mem hj)).2.1 (kr i hi) (kr j hj) h
  generalize L[i] = x at *
  generalize L[j] = y at *
  obtain ⟨x1, x2, x3⟩ := x
  obtain ⟨y1, y2, y3⟩ := y
  simp at a b c
  rw [a, b, c]
/-- The index finds the first equal node. -/
theorem idxF_take {L : List Nd} (ha : allSorted L) (hok : ∀ nd ∈ L, NdOk nd) (hs : L.length ≤ 2000) {k : Nat} (hk : k < L.length) :
    (idxF (L.take k) (ndKey L[k]) = none ∧ ∀ i (hi : i < k), L[i] ≠ L[k]) ∨ (∃ i, ∃ hi : i < k, idxF (L.take k) (ndKey L[k]) = some i ∧ L[i] = L[k]) := by
  unfold idxF
  have hl : (L.take k).length = k := by simp; omega
  rw [hl]
  have hg : ∀ i, i < k → (L.take k).getD i nd0 = L.getD i nd0 := fun i hi => by rw [List.getD, List.getElem?_take_of_lt hi, ← List.getD]
  cases e : (List.range k).find? fun i => decide (ndKey ((L.take k).getD i nd0) = ndKey L[k]) with
  | none =>
    left
    refine ⟨rfl, fun i hi h => ?_⟩
    have := find_range_none.1 e i hi
    rw [hg i hi, getD_of (by omega), h] at this
    simp at this
  | some i =>
    right
    obtain ⟨h1, h2, _⟩ := find_range.1 e
    rw [hg i h1, getD_of (by omega)] at h2
    exact ⟨i, h1, rfl, ndKey_inj ha hok hs (by omega) hk (by simpa using h2)⟩
end Go.Proofs.Ytigambcefdeaoaa
