/-
  The generated nodes, in plain Lean.
  Memory while keep.Nodes makes a node: the nodes so far, the node's own block, the seeds. No condition of its own.
-/
import Derived.Test.YtigambcefdeaoaaSNode
import Derived.Test.YtigambcefdeaoaaScal
namespace Go.Proofs.Ytigambcefdeaoaa

def baseN : List Nd := [⟨2, 0, []⟩, ⟨2, 1, []⟩, ⟨26, 0, []⟩]
def stateOps : List Int := [23, 27, 28, 29, 24]
def op1F (values : Bool) (x : Int) : Int := if values = false ∧ 5 < x % 9 then stateOps.getD ((x.tdiv 9) % 5).toNat 0 else 4 + x % 19
def op2F (values : Bool) (x : Int) : Int := if x % 11 = 0 then 1 else op1F values x
def imm2F (x : Int) : Int := if x % 11 = 0 then wordF (x.tdiv 11) x else 0
def seedsF (x : Int) : List Int := [x.tdiv 7, x.tdiv 101, x.tdiv 1009]
def kidsTo (out : List Nd) (op x : Int) (j : Nat) : List Int := (List.range j).map fun (i : Nat) => ofF out (operandSortF op i) ((seedsF x).getD i 0)
def imm3F (op x imm : Int) : Int := if op = 27 then 1 + (x.tdiv 5) % 2 else imm
def imm4F (op x imm : Int) : Int := if op = 23 ∨ op = 28 then (x.tdiv 5) % 2 else imm
def nodeOf (values : Bool) (out : List Nd) (x : Int) : Nd :=
  ⟨op2F values x, imm4F (op2F values x) x (imm3F (op2F values x) x (imm2F x)), kidsTo out (op2F values x) x (arityF (op2F values x)).1.toNat⟩
def nodesStep (values : Bool) (out : List Nd) (x : Int) : List Nd := if out.any (fun y => sameNd y (nodeOf values out x)) then out else out ++ [nodeOf values out x]
def nodesTo (values : Bool) (l : List Int) (k : Nat) : List Nd := (l.take k).foldl (nodesStep values) baseN
def nodesF (values : Bool) (l : List Int) : List Nd := nodesTo values l 14

theorem nodesTo_succ (values : Bool) (l : List Int) (k : Nat) (h : k < l.length) : nodesTo values l (k + 1) = nodesStep values (nodesTo values l k) l[k] := by
  unfold nodesTo
  rw [List.take_succ_eq_append_getElem h, List.foldl_append]
  rfl
theorem op1F_range (values : Bool) (x : Int) : 4 ≤ op1F values x ∧ op1F values x ≤ 29 := by
  unfold op1F
  split
  · have h1 := Int.emod_nonneg (x.tdiv 9) (show (5 : Int) ≠ 0 by omega)
    have h2 := Int.emod_lt_of_pos (x.tdiv 9) (show (0 : Int) < 5 by omega)
    generalize (x.tdiv 9) % 5 = y at *
    obtain ⟨n, rfl⟩ := Int.eq_ofNat_of_zero_le h1
    match n, h2 with
    | 0, _ | 1, _ | 2, _ | 3, _ | 4, _ => simp [stateOps]
    | n + 5, h => omega
  · have h1 := Int.emod_nonneg x (show (19 : Int) ≠ 0 by omega)
    have h2 := Int.emod_lt_of_pos x (show (0 : Int) < 19 by omega)
    omega
theorem op1F_ne (values : Bool) (x : Int) : op1F values x ≠ 25 ∧ op1F values x ≠ 26 := by
  unfold op1F
  split
  · have h1 := Int.emod_nonneg (x.tdiv 9) (show (5 : Int) ≠ 0 by omega)
    have h2 := Int.emod_lt_of_pos (x.tdiv 9) (show (0 : Int) < 5 by omega)
    generalize (x.tdiv 9) % 5 = y at *
    obtain ⟨n, rfl⟩ := Int.eq_ofNat_of_zero_le h1
    match n, h2 with
    | 0, _ | 1, _ | 2, _ | 3, _ | 4, _ => simp [stateOps]
    | n + 5, h => omega
  · have h1 := Int.emod_nonneg x (show (19 : Int) ≠ 0 by omega)
    have h2 := Int.emod_lt_of_pos x (show (0 : Int) < 19 by omega)
    omega
theorem op2F_range (values : Bool) (x : Int) : 1 ≤ op2F values x ∧ op2F values x ≤ 29 := by
  unfold op2F
  have := op1F_range values x
  split <;> omega
theorem arity_small (op : Int) (h1 : 1 ≤ op) (h2 : op ≤ 29) : 0 ≤ (arityF op).1 ∧ (arityF op).1 ≤ 3 ∧ (arityF op).2 = true := by
  unfold arityF
  (repeat' split) <;> first | (simp; done) | omega
theorem operandSort_cases (op k : Int) : operandSortF op k = 1 ∨ operandSortF op k = 2 := by unfold operandSortF; split <;> simp
theorem nodesStep_base (values : Bool) (out : List Nd) (x : Int) (h : ∃ r, out = baseN ++ r) : ∃ r, nodesStep values out x = baseN ++ r := by
  obtain ⟨r, rfl⟩ := h
  unfold nodesStep
  split
  · exact ⟨r, rfl⟩
  · exact ⟨r ++ [_], by rw [List.append_assoc]⟩
theorem nodesStep_len (values : Bool) (out : List Nd) (x : Int) : (nodesStep values out x).length ≤ out.length + 1 := by
  unfold nodesStep; split <;> simp
theorem foldl_inv {α β : Type} (P : α → Prop) (f : α → β → α) : ∀ (l : List β) (a : α), P a → (∀ a b, b ∈ l → P a → P (f a b)) → P (l.foldl f a)
  | [], a, h, _ => h
  | b :: l, a, h, hs => foldl_inv P f l (f a b) (hs a b (by simp) h) (fun a b hb => hs a b (by simp [hb]))
theorem nodesTo_base (values : Bool) (l : List Int) (k : Nat) : ∃ r, nodesTo values l k = baseN ++ r :=
  foldl_inv (fun out => ∃ r, out = baseN ++ r) _ _ _ ⟨[], by simp⟩ (fun a b _ h => nodesStep_base values a b h)
theorem nodesTo_len (values : Bool) (l : List Int) (k : Nat) : (nodesTo values l k).length ≤ 3 + k := by
  induction k with
  | zero => simp [nodesTo, baseN]
  | succ k ih =>
    by_cases h : k < l.length
    · rw [nodesTo_succ values l k h]
      have := nodesStep_len values (nodesTo values l k) l[k]
      omega
    · have : nodesTo values l (k + 1) = nodesTo values l k := by unfold nodesTo; rw [List.take_of_length_le (by omega), List.take_of_length_le (by omega)]
      rw [this]; omega
/-- The first three nodes have the sorts 1, 1, 2. -/
theorem sorts_base (r : List Nd) : sortsTo (baseN ++ r) 3 = [1, 1, 2] := by
  have g0 : (baseN ++ r).getD 0 ⟨0, 0, []⟩ = ⟨2, 0, []⟩ := rfl
  have g1 : (baseN ++ r).getD 1 ⟨0, 0, []⟩ = ⟨2, 1, []⟩ := rfl
  have g2 : (baseN ++ r).getD 2 ⟨0, 0, []⟩ = ⟨26, 0, []⟩ := rfl
  simp only [sortsTo, g0, g1, g2]
  rfl
theorem sortsTo_take (L : List Nd) (a : Nat) : ∀ b, a ≤ b → (sortsTo L b).take a = sortsTo L a := by
  intro b hb
  induction b with
  | zero => simp at hb; subst hb; rfl
  | succ b ih =>
    by_cases e : a = b + 1
    · subst e; rw [List.take_of_length_le (by rw [sortsTo_len]; exact Nat.le_refl _)]
    · show (sortsTo L b ++ _).take a = _
      rw [List.take_append_of_le_length (by rw [sortsTo_len]; omega)]
      exact ih (by omega)
theorem idxs_base (r : List Nd) (s : Int) (h : s = 1 ∨ s = 2) : 0 < (idxs (sortsF (baseN ++ r)) s (baseN ++ r).length).length := by
  have h3 : (sortsF (baseN ++ r)).take 3 = [1, 1, 2] := by
    unfold sortsF
    rw [sortsTo_take _ 3 _ (by simp [baseN])]
    exact sorts_base r
  have hl : 3 ≤ (baseN ++ r).length := by simp [baseN]
  have hg : ∀ i, i < 3 → (sortsF (baseN ++ r)).getD i 0 = ([1, 1, 2] : List Int).getD i 0 := by
    intro i hi
    rw [← h3]
    simp [List.getD, hi]
  unfold idxs
  rw [List.length_map]
  apply List.length_pos_iff.2
  intro hnil
  rw [List.filter_eq_nil_iff] at hnil
  rcases h with rfl | rfl
  · exact hnil 0 (List.mem_range.2 (by omega)) (by rw [hg 0 (by omega)]; rfl)
  · exact hnil 2 (List.mem_range.2 (by omega)) (by rw [hg 2 (by omega)]; rfl)
theorem idxs_mem {s : List Int} {sort x : Int} {k : Nat} (h : x ∈ idxs s sort k) : 0 ≤ x ∧ x < k ∧ s.getD x.toNat 0 = sort := by
  unfold idxs at h
  obtain ⟨i, hi, rfl⟩ := List.mem_map.1 h
  obtain ⟨h1, h2⟩ := List.mem_filter.1 hi
  simp at h1 h2
  exact ⟨by omega, by omega, by simpa using h2⟩
/-- The node that is picked has the sort that was asked for. -/
theorem ofF_spec (L : List Nd) (sort n : Int) (hne : 0 < (idxs (sortsF L) sort L.length).length) : 0 ≤ ofF L sort n ∧ ofF L sort n < L.length ∧ (sortsF L).getD (ofF L sort n).toNat 0 = sort := by
  apply idxs_mem (k := L.length)
  unfold ofF
  have h1 := Int.emod_nonneg n (show ((idxs (sortsF L) sort L.length).length : Int) ≠ 0 by omega)
  generalize n % ((idxs (sortsF L) sort L.length).length : Int) = y at *
  have hlt : (idxs (sortsF L) sort L.length).length - 1 - y.toNat < (idxs (sortsF L) sort L.length).length := by omega
  rw [List.getD, List.getElem?_eq_getElem hlt]
  exact List.getElem_mem hlt
theorem nodeOf_small (values : Bool) (out : List Nd) (x : Int) : (nodeOf values out x).kids.length ≤ 3 := by
  have := op2F_range values x
  have := arity_small (op2F values x) (by omega) (by omega)
  simp only [nodeOf, kidsTo, List.length_map, List.length_range]
  omega
theorem nodesTo_small (values : Bool) (l : List Int) (k : Nat) : ∀ nd ∈ nodesTo values l k, nd.kids.length ≤ 3 :=
  foldl_inv (fun (out : List Nd) => ∀ nd ∈ out, nd.kids.length ≤ 3) (nodesStep values) _ _ (by simp [baseN]) (fun a b _ h nd hnd => by
    unfold nodesStep at hnd
    split at hnd
    · exact h nd hnd
    · rcases List.mem_append.1 hnd with h1 | h1
      · exact h nd h1
      · simp at h1; subst h1; exact nodeOf_small values a b)
end Go.Proofs.Ytigambcefdeaoaa

namespace Go.Proofs.Ytigambcefdeaoaa
open Go.RowKit

theorem T_nodes : SlT Try.prog 25 24 3 40 := by
  obtain ⟨i, h1, h2, h3, h4⟩ := info_parts (show (Try.prog.info? 24).map (fun i => (i.zero, i.size, i.bytes)) = some (some (.agg #[.int .i64 0, .int .i64 0, .slice none 0 0]), 3, 40) from by kernel_rfl)
  exact ⟨Try.underlying25, ⟨i, _, h1, h2, h3, h4, rfl⟩, by omega⟩

theorem updCell (w : World) (b i : Nat) (v : Value) : Upd (· = b) w (w.setCell ⟨b, i, none⟩ v) := Upd.refl.setCell (S := (· = b)) (p := ⟨b, i, none⟩) (.inl rfl) _

/-- The cells of nodes, three a node. -/
def NodeCells (w : World) (K : Nat → Prop) (cs : List Value) (L : List Nd) : Prop :=
  cs.length = 3 * L.length ∧ ∀ i (h : i < L.length), ∃ KA kc, cs[3 * i]? = some (.int .i64 L[i].op) ∧ cs[3 * i + 1]? = some (.int .i64 L[i].imm) ∧ cs[3 * i + 2]? = some (.slice KA L[i].kids.length kc) ∧ L[i].kids.length ≤ kc ∧ Ints w K KA L[i].kids

theorem NodeCells.nil {w : World} {K : Nat → Prop} : NodeCells w K [] [] := ⟨rfl, fun i h => by simp at h⟩
theorem NodeCells.mono {w w' : World} {K K' S : Nat → Prop} {cs : List Value} {L : List Nd} (h : NodeCells w K cs L) (u : Upd S w w') (d : ∀ k, k < w.heap.size → K k → ¬ S k) (hK : ∀ k, k < w.heap.size → K k → K' k) : NodeCells w' K' cs L := by
  refine ⟨h.1, fun i hi => ?_⟩
  obtain ⟨KA, kc, h1, h2, h3, h4, h5⟩ := h.2 i hi
  refine ⟨KA, kc, h1, h2, h3, h4, ?_⟩
  exact ((h5.mono (G := fun k => K' k ∧ K k) (fun k hk hK0 => ⟨hK k hk hK0, hK0⟩)).upd u (fun k hk hk' => d k hk hk'.2)).mono (fun _ _ h => h.1)
theorem NodeCells.snoc {w : World} {K : Nat → Prop} {cs : List Value} {L : List Nd} (h : NodeCells w K cs L) {nd : Nd} {KA : Option Addr} {kc : Nat} (hk : Ints w K KA nd.kids) (hkc : nd.kids.length ≤ kc) :
    NodeCells w K (cs ++ [.int .i64 nd.op, .int .i64 nd.imm, .slice KA nd.kids.length kc]) (L ++ [nd]) := by
  refine ⟨by simp [h.1]; omega, fun i hi => ?_⟩
  by_cases hlt : i < L.length
  · obtain ⟨KA, kc, h1, h2, h3, h4, h5⟩ := h.2 i hlt
    have hl := h.1
    refine ⟨KA, kc, ?_, ?_, ?_, ?_, ?_⟩
    · rw [List.getElem?_append_left (by omega), List.getElem_append_left hlt]; exact h1
    · rw [List.getElem?_append_left (by omega), List.getElem_append_left hlt]; exact h2
    · rw [List.getElem?_append_left (by omega), List.getElem_append_left hlt]; exact h3
    · rw [List.getElem_append_left hlt]; exact h4
    · rw [List.getElem_append_left hlt]; exact h5
  · have he : i = L.length := by simp at hi; omega
    subst he
    have hl := h.1
    refine ⟨KA, kc, ?_, ?_, ?_, ?_, ?_⟩
    · rw [List.getElem?_append_right (by omega), hl]; simp
    · rw [List.getElem?_append_right (by omega), hl]; simp
    · rw [List.getElem?_append_right (by omega), hl]; simp
    · simpa using hkc
    · simpa using hk

/-- Nodes in a slice that the call owns; their operands lie in blocks of G, elsewhere. -/
def NodesO (w : World) (G : Nat → Prop) (A : Option Addr) (n c : Nat) (L : List Nd) : Prop :=
  n = L.length ∧ ∃ cs, Own w 24 3 A n c cs ∧ NodeCells w (fun k => G k ∧ ¬ At A k) cs L
section
variable {w w' : World} {G G' S F : Nat → Prop} {A : Option Addr} {n c : Nat} {L : List Nd}
theorem NodesO.upd (h : NodesO w G A n c L) (u : Upd S w w') (dA : ∀ k, At A k → ¬ S k) (dG : ∀ k, k < w.heap.size → G k → ¬ S k) : NodesO w' G A n c L := by
  obtain ⟨h1, cs, h2, h3⟩ := h
  exact ⟨h1, cs, h2.upd u dA, h3.mono u (fun k hk hg => dG k hk hg.1) (fun _ _ h => h)⟩
theorem NodesO.mono (h : NodesO w G A n c L) (hG : ∀ k, k < w.heap.size → G k → G' k) : NodesO w G' A n c L := by
  obtain ⟨h1, cs, h2, h3⟩ := h
  exact ⟨h1, cs, h2, h3.mono (Upd.refl (S := Non)) (fun _ _ _ f => f) (fun k hk hg => ⟨hG k hk hg.1, hg.2⟩)⟩
theorem NodesO.view (h : NodesO w G A n c L) (hA : ∀ k, At A k → F k) (hG : ∀ k, k < w.heap.size → G k → F k) : NodesV w F A L := by
  obtain ⟨rfl, cs, h2, h3⟩ := h
  rcases h2.cases with ⟨_, h0, _, _⟩ | ⟨g, cur, rfl, hb, _, _, _, ht⟩
  · exact .inl (List.eq_nil_of_length_eq_zero h0)
  · refine .inr ⟨g, 0, rfl, hA g (At.some_.2 rfl), fun i hi => ?_⟩
    have hl := h3.1
    obtain ⟨KA, kc, c1, c2, c3, c4, c5⟩ := h3.2 i hi
    have hcell : ∀ j u, cs[j]? = some u → w.cell? ⟨g, j, none⟩ = some u := by
      intro j u hj
      rw [hb.cell]
      rw [← ht] at hj
      rw [List.getElem?_take] at hj
      split at hj
      · simpa using hj
      · cases hj
    refine ⟨?_, ?_, KA, kc, ?_, c4, c5.mono (fun k hk hg => hG k hk hg.1)⟩
    · rw [Nat.zero_add, Nat.mul_comm]; exact hcell _ _ c1
    · rw [Nat.zero_add, Nat.mul_comm]; exact hcell _ _ c2
    · rw [Nat.zero_add, Nat.mul_comm]; exact hcell _ _ c3
/-- One node more. -/
theorem NodesO.snoc {cs : List Value} (h : NodesO w G A n c L) (hc : NodeCells w (fun k => G k ∧ ¬ At A k) cs L) {nd : Nd} {KA : Option Addr} {kc : Nat} (hk : Ints w (fun k => G k ∧ ¬ At A k) KA nd.kids) (hkc : nd.kids.length ≤ kc)
    {A' : Option Addr} {c' : Nat} (ho : Own w' 24 3 A' (n + 1) c' (cs ++ [.int .i64 nd.op, .int .i64 nd.imm, .slice KA nd.kids.length kc])) (hu : Upd (At A) w w') (hat : ∀ k, At A' k → At A k ∨ k = w.heap.size) (hG : ∀ k, k < w.heap.size → G k → G' k) :
    NodesO w' G' A' (n + 1) c' (L ++ [nd]) := by
  refine ⟨by simp [h.1], _, ho, ?_⟩
  refine (hc.snoc hk hkc).mono hu (fun k _ hg => hg.2) (fun k hk hg => ⟨hG k hk hg.1, fun hA => ?_⟩)
  rcases hat k hA with h | h
  · exact hg.2 h
  · omega
end

/-- While a node is made: w0 is the world when its making began. -/
structure NSt (w0 : World) (bn p : Nat) (op imm : Int) (KA : Option Addr) (kids : List Int) (kc : Nat) (SA : Option Addr) (seeds : List Int) (sc : Nat) (wx : World) : Prop where
  upd : Upd Non w0 wx
  bnGe : w0.heap.size ≤ bn
  pGe : w0.heap.size ≤ p
  ne : bn ≠ p
  blk : Blk wx bn 24 #[.int .i64 op, .int .i64 imm, .slice KA kids.length kc]
  rd : Blk wx p 82 #[.slice SA seeds.length sc, .int .i64 0]
  sds : Ints wx (fun k => k ≠ p ∧ k ≠ bn ∧ ¬ At KA k) SA seeds
  sle : seeds.length ≤ sc
  own : Own wx 3 1 KA kids.length kc (icells kids)
  sep : ∀ k, At KA k → w0.heap.size ≤ k ∧ k ≠ bn ∧ k ≠ p

section
variable {w0 wx w' : World} {bn p : Nat} {op imm : Int} {KA SA : Option Addr} {kids seeds : List Int} {kc sc : Nat}
theorem NSt.start (w0 : World) (op a b c : Int) : NSt w0 (w0.heap.size + 1 + 1) (w0.heap.size + 1) op 0 none [] 0 (some ⟨w0.heap.size, 0, none⟩) [a, b, c] 3
    (((w0.alloc (.cells #[.int .i64 a, .int .i64 b, .int .i64 c] 3)).alloc (.cells #[.slice (some ⟨w0.heap.size, 0, none⟩) 3 3, .int .i64 0] 82)).alloc (.cells #[.int .i64 op, .int .i64 0, .slice none 0 0] 24)).drew := by
  refine ⟨(((Upd.refl.alloc _).alloc _).alloc _).drew, by omega, by omega, by omega, Blk.new' (by simp), (Blk.new' (n := w0.heap.size + 1) (by simp)).alloc _, ?_, by simp, Own.none_, fun k hk => (At.none_ hk).elim⟩
  have h := ((Ints.new (w := w0) (t := 3) (cs := #[.int .i64 a, .int .i64 b, .int .i64 c]) [a, b, c] rfl rfl).mono (G := fun k => k ≠ w0.heap.size + 1 ∧ k ≠ w0.heap.size + 1 + 1 ∧ ¬ At none k) (fun k hk _ => by simp at hk; exact ⟨by omega, by omega, At.none_⟩))
  exact (h.upd (Upd.refl.alloc (.cells #[.slice (some ⟨w0.heap.size, 0, none⟩) 3 3, .int .i64 0] 82) (S := Non)) (fun _ _ _ f => f)).upd (Upd.refl.alloc (.cells #[.int .i64 op, .int .i64 0, .slice none 0 0] 24) (S := Non)).drew (fun _ _ _ f => f)
theorem NSt.non (h : NSt w0 bn p op imm KA kids kc SA seeds sc wx) (u : Upd Non wx w') : NSt w0 bn p op imm KA kids kc SA seeds sc w' :=
  ⟨h.upd.then_non u, h.bnGe, h.pGe, h.ne, h.blk.upd u (fun f => f), h.rd.upd u (fun f => f), h.sds.upd u (fun _ _ _ f => f), h.sle, h.own.upd u (fun _ _ f => f), h.sep⟩
theorem NSt.setOp (h : NSt w0 bn p op imm KA kids kc SA seeds sc wx) (op' : Int) : NSt w0 bn p op' imm KA kids kc SA seeds sc (wx.setCell ⟨bn, 0, none⟩ (.int .i64 op')) := by
  have u : Upd (· = bn) wx (wx.setCell ⟨bn, 0, none⟩ (.int .i64 op')) := updCell _ _ _ _
  refine ⟨h.upd.trans u (fun i hi e => by have := h.bnGe; omega), h.bnGe, h.pGe, h.ne, ?_, h.rd.upd u (fun e => h.ne e.symm), h.sds.upd u (fun _ _ hk e => hk.2.1 e), h.sle, h.own.upd u (fun k hk e => (h.sep k hk).2.1 e), h.sep⟩
  simpa using h.blk.set_ 0 (.int .i64 op')
theorem NSt.setImm (h : NSt w0 bn p op imm KA kids kc SA seeds sc wx) (imm' : Int) : NSt w0 bn p op imm' KA kids kc SA seeds sc (wx.setCell ⟨bn, 1, none⟩ (.int .i64 imm')) := by
  have u : Upd (· = bn) wx (wx.setCell ⟨bn, 1, none⟩ (.int .i64 imm')) := updCell _ _ _ _
  refine ⟨h.upd.trans u (fun i hi e => by have := h.bnGe; omega), h.bnGe, h.pGe, h.ne, ?_, h.rd.upd u (fun e => h.ne e.symm), h.sds.upd u (fun _ _ hk e => hk.2.1 e), h.sle, h.own.upd u (fun k hk e => (h.sep k hk).2.1 e), h.sep⟩
  simpa using h.blk.set_ 1 (.int .i64 imm')
/-- A seed read. -/
theorem NSt.next {SA' : Option Addr} {sc' : Nat} (h : NSt w0 bn p op imm KA kids kc SA seeds sc wx) (hr : Blk w' p 82 #[.slice SA' seeds.tail.length sc', .int .i64 0]) (hs : Ints w' (fun k => k ≠ p ∧ k ≠ bn ∧ ¬ At KA k) SA' seeds.tail) (hl : seeds.tail.length ≤ sc')
    (u : Upd (· = p) wx w') : NSt w0 bn p op imm KA kids kc SA' seeds.tail sc' w' :=
  ⟨h.upd.trans u (fun i hi e => by have := h.pGe; omega), h.bnGe, h.pGe, h.ne, h.blk.upd u h.ne, hr, hs, hl, h.own.upd u (fun k hk e => (h.sep k hk).2.2 e), h.sep⟩
/-- An operand appended and stored. -/
theorem NSt.app {KA' : Option Addr} {kc' : Nat} {x : Int} (h : NSt w0 bn p op imm KA kids kc SA seeds sc wx) (ho : Own w' 3 1 KA' (kids.length + 1) kc' (icells kids ++ [.int .i64 x])) (u : Upd (At KA) wx w') (hat : ∀ k, At KA' k → At KA k ∨ wx.heap.size ≤ k) :
    NSt w0 bn p op imm KA' (kids ++ [x]) kc' SA seeds sc (w'.setCell ⟨bn, 2, none⟩ (.slice KA' (kids.length + 1) kc')) := by
  have u2 : Upd (· = bn) w' (w'.setCell ⟨bn, 2, none⟩ (.slice KA' (kids.length + 1) kc')) := updCell _ _ _ _
  have hsz := h.upd.size
  have hb := h.blk.lt
  have hp := h.rd.lt
  have sep' : ∀ k, At KA' k → w0.heap.size ≤ k ∧ k ≠ bn ∧ k ≠ p := fun k hk => by
    rcases hat k hk with q | q
    · exact h.sep k q
    · exact ⟨by omega, by omega, by omega⟩
  have hb' := h.blk.upd u (fun q => (h.sep _ q).2.1 rfl)
  refine ⟨(h.upd.trans u (fun i hi q => by have := (h.sep i q).1; omega)).trans u2 (fun i hi e => by have := h.bnGe; omega), h.bnGe, h.pGe, h.ne, ?_, (h.rd.upd u (fun q => (h.sep _ q).2.2 rfl)).upd u2 (fun e => h.ne e.symm), ?_, h.sle, ?_, sep'⟩
  · have := hb'.set_ 2 (.slice KA' (kids.length + 1) kc')
    simpa using this
  · have h1 := h.sds.mono (G := fun k => (k ≠ p ∧ k ≠ bn ∧ ¬ At KA' k) ∧ ¬ At KA k) (fun k hk q => ⟨⟨q.1, q.2.1, fun hA => by
      rcases hat k hA with r | r
      · exact q.2.2 r
      · omega⟩, q.2.2⟩)
    exact ((h1.upd u (fun k _ q => q.2)).upd u2 (fun k _ q e => q.1.2.1 e)).mono (fun k _ q => q.1)
  · have := ho.upd u2 (fun k hk e => (sep' k hk).2.1 e)
    rw [icells_snoc]
    simpa using this
end
end Go.Proofs.Ytigambcefdeaoaa
