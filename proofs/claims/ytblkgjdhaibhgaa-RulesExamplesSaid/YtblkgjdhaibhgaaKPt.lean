/-
  The patterns that the generators make, in plain terms: what Reader.Pattern returns for given seeds. No condition of its own.
  keep.Numbered in plain terms: the variables of a pattern renumbered in the order of their occurrence. No condition of its own.
  Patterns in a slice that the call owns and appends to. No condition of its own.
-/
import Derived.Test.YtblkgjdhaibhgaaPtV
import Derived.Test.YtblkgjdhaibhgaaRVal
namespace Go.Proofs.Ytblkgjdhaibhgaa
open Go.RowKit

/-- A leaf. -/
def leafF (sort : Int) (dp : Bool) (vars : Int) (st : Bool) (n : Int) : Pt :=
  if sort = 2 then .mk 1 0 0 0 []
  else if n % 12 = 0 ∧ dp = true then .mk 0 1 (wordF (n.tdiv 12 % 1000) n) 0 []
  else if st then .mk (2 + n.tdiv 12 % 1000 % (if vars - 1 < 1 then 1 else vars - 1)) 0 0 0 []
  else .mk (1 + n.tdiv 12 % 1000 % vars) 0 0 0 []
def kOpF (sort : Int) (st : Bool) (n : Int) : Int :=
  if sort = 2 then 27 + n.tdiv 12 % 1000 % 3 else if st = true ∧ 9 < n % 12 then 23 else 4 + n.tdiv 12 % 1000 % 19
def kImmF (op n : Int) : Int × Int :=
  if hasImmF op then (if n.tdiv 12 % 1000 % 5 = 0 then (if op = 27 then 1 else 1 - n.tdiv 12 % 1000 % 2, 0) else (0, 1 + n.tdiv 12 % 1000 % 2)) else (0, 0)
def sortsOf (op : Int) : List Int := (List.range (arityF op).1.toNat).map fun (j : Nat) => operandSortF op j
def kidsG (g : Int → List Int → Pt × List Int) : List Int → List Int → List Pt × List Int
  | [], xs => ([], xs)
  | s :: ss, xs => ((g s xs).1 :: (kidsG g ss (g s xs).2).1, (kidsG g ss (g s xs).2).2)
/-- What Reader.Pattern makes at depth 3 - f. -/
def patF (vars : Int) (st : Bool) : Nat → Int → List Int → Pt × List Int
  | 0, s, xs => (leafF s true vars st (xs.headD 0), xs.tail)
  | f + 1, s, xs =>
    if xs.headD 0 % 12 < 3 then (leafF s (decide (f < 2)) vars st (xs.headD 0), xs.tail)
    else (.mk 0 (kOpF s st (xs.headD 0)) (kImmF (kOpF s st (xs.headD 0)) (xs.headD 0)).1 (kImmF (kOpF s st (xs.headD 0)) (xs.headD 0)).2 (kidsG (patF vars st f) (sortsOf (kOpF s st (xs.headD 0))) xs.tail).1,
      (kidsG (patF vars st f) (sortsOf (kOpF s st (xs.headD 0))) xs.tail).2)
theorem kidsG_snoc (g : Int → List Int → Pt × List Int) (s : Int) : ∀ (ss : List Int) (xs : List Int), kidsG g (ss ++ [s]) xs = ((kidsG g ss xs).1 ++ [(g s (kidsG g ss xs).2).1], (g s (kidsG g ss xs).2).2)
  | [], xs => rfl
  | t :: ss, xs => by
    simp only [List.cons_append, kidsG, kidsG_snoc g s ss]
theorem kidsG_len (g : Int → List Int → Pt × List Int) : ∀ (ss : List Int) (xs : List Int), (kidsG g ss xs).1.length = ss.length
  | [], _ => rfl
  | s :: ss, xs => by simp only [kidsG, List.length_cons, kidsG_len g ss]
theorem kidsG_size {g : Int → List Int → Pt × List Int} {B : Nat} (h : ∀ s xs, (g s xs).1.size ≤ B) : ∀ (ss : List Int) (xs : List Int), Pt.sizeL (kidsG g ss xs).1 ≤ B * ss.length
  | [], _ => by simp [kidsG, Pt.sizeL]
  | s :: ss, xs => by
    have h1 := kidsG_size h ss (g s xs).2
    have h2 := h s xs
    simp only [kidsG, Pt.sizeL, List.length_cons, Nat.mul_add]
    omega
theorem kOp_arity (sort : Int) (st : Bool) (n : Int) : 0 ≤ (arityF (kOpF sort st n)).1 ∧ (arityF (kOpF sort st n)).1 ≤ 3 := by
  have h1 : ∀ k : Fin 30, 0 ≤ (arityF (k.val : Int)).1 ∧ (arityF (k.val : Int)).1 ≤ 3 := by decide +kernel
  have h2 : 0 ≤ kOpF sort st n ∧ kOpF sort st n < 30 := by
    unfold kOpF
    split
    · omega
    · split
      · omega
      · omega
  obtain ⟨k, hk⟩ := Int.eq_ofNat_of_zero_le h2.1
  rw [hk]
  exact h1 ⟨k, by omega⟩
theorem sortsOf_len (op : Int) : (sortsOf op).length = (arityF op).1.toNat := by unfold sortsOf; simp
theorem sortsOf_get (op : Int) (j : Nat) (h : j < (sortsOf op).length) : (sortsOf op)[j] = operandSortF op j := by simp [sortsOf]
theorem leaf_size (sort : Int) (dp : Bool) (vars : Int) (st : Bool) (n : Int) : (leafF sort dp vars st n).size = 1 := by
  unfold leafF
  split
  · exact Pt.size_leaf _ _ _ _
  · split
    · exact Pt.size_leaf _ _ _ _
    · split <;> exact Pt.size_leaf _ _ _ _
def kSize : Nat → Nat
  | 0 => 1
  | f + 1 => 1 + 3 * kSize f
theorem patF_size (vars : Int) (st : Bool) : ∀ (f : Nat) (s : Int) (xs : List Int), (patF vars st f s xs).1.size ≤ kSize f
  | 0, s, xs => by simp only [patF, kSize, leaf_size]; omega
  | f + 1, s, xs => by
    simp only [patF]
    split
    · simp only [leaf_size, kSize]; omega
    · rw [Pt.size_eq]
      simp only [Pt.kids, kSize]
      have h := kidsG_size (patF_size vars st f) (sortsOf (kOpF s st (xs.headD 0))) xs.tail
      have h1 := kOp_arity s st (xs.headD 0)
      rw [sortsOf_len] at h
      have h2 : kSize f * (arityF (kOpF s st (xs.headD 0))).1.toNat ≤ kSize f * 3 := Nat.mul_le_mul (Nat.le_refl _) (by omega)
      omega
end Go.Proofs.Ytblkgjdhaibhgaa

namespace Go.Proofs.Ytblkgjdhaibhgaa
open Go.RowKit

/-- The first index of x, counted from k. -/
def findG : List Int → Int → Nat → Option Nat
  | [], _, _ => none
  | y :: l, x, k => if y = x then some k else findG l x (k + 1)
/-- The last index of x, counted from k; a where there is none. -/
def lastG : List Int → Int → Nat → Int → Int
  | [], _, _, a => a
  | y :: l, x, k, a => lastG l x (k + 1) (if y = x then (k : Int) else a)
def numV (vs : List Int) (x : Int) : Int × List Int :=
  match findG vs x 0 with
  | some i => ((i : Int) + 1, vs)
  | none => ((vs.length : Int) + 1, vs ++ [x])
def numI (ms : List Int) (x : Int) : Int × List Int :=
  if 0 < x then (if lastG ms x 0 (-1) < 0 then ((ms.length : Int) + 1, ms ++ [x]) else (lastG ms x 0 (-1) + 1, ms)) else (x, ms)
mutual
def numF : Pt → List Int → List Int → Pt × List Int × List Int
  | .mk v op imm iv kids, vs, ms =>
    if 0 < v then (.mk (numV vs v).1 op imm iv kids, (numV vs v).2, ms)
    else (.mk v op imm (numI ms iv).1 (numL kids vs (numI ms iv).2).1, (numL kids vs (numI ms iv).2).2.1, (numL kids vs (numI ms iv).2).2.2)
def numL : List Pt → List Int → List Int → List Pt × List Int × List Int
  | [], vs, ms => ([], vs, ms)
  | k :: ks, vs, ms => ((numF k vs ms).1 :: (numL ks (numF k vs ms).2.1 (numF k vs ms).2.2).1, (numL ks (numF k vs ms).2.1 (numF k vs ms).2.2).2.1, (numL ks (numF k vs ms).2.1 (numF k vs ms).2.2).2.2)
end
theorem numF_var {p : Pt} (h : 0 < p.v) (vs ms : List Int) : numF p vs ms = (.mk (numV vs p.v).1 p.op p.imm p.iv p.kids, (numV vs p.v).2, ms) := by
  cases p with
  | mk v op imm iv kids => simp only [numF, Pt.v, Pt.op, Pt.imm, Pt.iv, Pt.kids] at h ⊢; rw [if_pos h]
theorem numF_op {p : Pt} (h : ¬ 0 < p.v) (vs ms : List Int) : numF p vs ms = (.mk p.v p.op p.imm (numI ms p.iv).1 (numL p.kids vs (numI ms p.iv).2).1, (numL p.kids vs (numI ms p.iv).2).2.1, (numL p.kids vs (numI ms p.iv).2).2.2) := by
  cases p with
  | mk v op imm iv kids => simp only [numF, Pt.v, Pt.op, Pt.imm, Pt.iv, Pt.kids] at h ⊢; rw [if_neg h]
theorem numL_snoc (k : Pt) : ∀ (ks : List Pt) (vs ms : List Int), numL (ks ++ [k]) vs ms = ((numL ks vs ms).1 ++ [(numF k (numL ks vs ms).2.1 (numL ks vs ms).2.2).1], (numF k (numL ks vs ms).2.1 (numL ks vs ms).2.2).2)
  | [], vs, ms => by simp only [List.nil_append, numL]
  | x :: ks, vs, ms => by simp only [List.cons_append, numL, numL_snoc k ks]
theorem numL_len : ∀ (ks : List Pt) (vs ms : List Int), (numL ks vs ms).1.length = ks.length
  | [], _, _ => by simp [numL]
  | x :: ks, vs, ms => by simp only [numL, List.length_cons, numL_len ks]
theorem numV_len (vs : List Int) (x : Int) : (numV vs x).2.length ≤ vs.length + 1 := by
  unfold numV
  split <;> simp
theorem numI_len (ms : List Int) (x : Int) : (numI ms x).2.length ≤ ms.length + 1 := by
  unfold numI
  split
  · split <;> simp
  · simp
mutual
theorem numF_len : ∀ (p : Pt) (vs ms : List Int), (numF p vs ms).2.1.length ≤ vs.length + p.size ∧ (numF p vs ms).2.2.length ≤ ms.length + p.size ∧ (numF p vs ms).1.size = p.size
  | .mk v op imm iv kids, vs, ms => by
    simp only [numF]
    split
    · have := numV_len vs v
      simp only [Pt.size]
      refine ⟨?_, ?_, trivial⟩ <;> omega
    · obtain ⟨h1, h2, h3⟩ := numL_lens kids vs (numI ms iv).2
      have := numI_len ms iv
      simp only [Pt.size, h3]
      refine ⟨?_, ?_, trivial⟩ <;> omega
theorem numL_lens : ∀ (ks : List Pt) (vs ms : List Int), (numL ks vs ms).2.1.length ≤ vs.length + Pt.sizeL ks ∧ (numL ks vs ms).2.2.length ≤ ms.length + Pt.sizeL ks ∧ Pt.sizeL (numL ks vs ms).1 = Pt.sizeL ks
  | [], vs, ms => by simp [numL, Pt.sizeL]
  | k :: ks, vs, ms => by
    obtain ⟨h1, h2, h3⟩ := numF_len k vs ms
    obtain ⟨g1, g2, g3⟩ := numL_lens ks (numF k vs ms).2.1 (numF k vs ms).2.2
    simp only [numL, Pt.sizeL, h3, g3]
    refine ⟨?_, ?_, trivial⟩ <;> omega
end
end Go.Proofs.Ytblkgjdhaibhgaa

namespace Go.Proofs.Ytblkgjdhaibhgaa
open Go.RowKit

theorem T_pats : SlT Try.prog 28 30 5 56 := by
  obtain ⟨i, h1, h2, h3, h4⟩ := info_parts (show (Try.prog.info? 30).map (fun i => (i.zero, i.size, i.bytes)) = some (some (.agg #[.int .i64 0, .int .i64 0, .int .i64 0, .int .i64 0, .slice none 0 0]), 5, 56) from by kernel_rfl)
  exact ⟨Try.underlying28, ⟨i, _, h1, h2, h3, h4, rfl⟩, by omega⟩
section
variable {w w' : World} {F G G' S : Nat → Prop} {A : Option Addr} {L : List Pt} {n c : Nat}
/-- The cells of a pattern. -/
def pcells (p : Pt) (KA : Option Addr) (kc : Nat) : List Value := [.int .i64 p.v, .int .i64 p.op, .int .i64 p.imm, .int .i64 p.iv, .slice KA p.kids.length kc]
def PtCells (w : World) (K : Nat → Prop) (cs : List Value) (L : List Pt) : Prop :=
  cs.length = 5 * L.length ∧ ∀ i (h : i < L.length), ∃ KA kc, (∀ j, j < 5 → cs[5 * i + j]? = (pcells L[i] KA kc)[j]?) ∧ PtK w K L[i] KA kc
theorem PtCells.nil {K : Nat → Prop} : PtCells w K [] [] := ⟨rfl, fun i h => by simp at h⟩
theorem PtCells.mono {K K' S : Nat → Prop} {cs : List Value} (h : PtCells w K cs L) (u : Upd S w w') (d : ∀ k, k < w.heap.size → K k → ¬ S k) (hK : ∀ k, k < w.heap.size → K k → K' k) : PtCells w' K' cs L := by
  refine ⟨h.1, fun i hi => ?_⟩
  obtain ⟨KA, kc, h1, h5⟩ := h.2 i hi
  refine ⟨KA, kc, h1, ?_⟩
  have h6 := PtK.mono (G := fun k => K' k ∧ K k) (fun k hk hK0 => ⟨hK k hk hK0, hK0⟩) _ _ _ h5
  exact PtK.mono (fun _ _ h => h.1) _ _ _ (PtK.upd u (fun k hk hk' => d k hk hk'.2) _ _ _ h6)
theorem PtCells.snoc {K : Nat → Prop} {cs : List Value} (h : PtCells w K cs L) {p : Pt} {KA : Option Addr} {kc : Nat} (hk : PtK w K p KA kc) :
    PtCells w K (cs ++ pcells p KA kc) (L ++ [p]) := by
  refine ⟨by simp [h.1, pcells]; omega, fun i hi => ?_⟩
  have hl := h.1
  by_cases hlt : i < L.length
  · obtain ⟨KA, kc, h1, h5⟩ := h.2 i hlt
    refine ⟨KA, kc, fun j hj => ?_, ?_⟩
    · rw [List.getElem?_append_left (by omega), List.getElem_append_left hlt]; exact h1 j hj
    · rw [List.getElem_append_left hlt]; exact h5
  · have he : i = L.length := by simp at hi; omega
    subst he
    refine ⟨KA, kc, fun j hj => ?_, ?_⟩
    · rw [List.getElem?_append_right (by omega), hl]; simp
    · simpa using hk
/-- Patterns in a slice that the call owns; their operands lie in blocks of G, elsewhere. -/
def PtO (w : World) (G : Nat → Prop) (A : Option Addr) (n c : Nat) (L : List Pt) : Prop :=
  n = L.length ∧ ∃ cs, Own w 30 5 A n c cs ∧ PtCells w (fun k => G k ∧ ¬ At A k) cs L
theorem PtO.none_ : PtO w G none 0 0 [] := ⟨rfl, [], Own.none_, PtCells.nil⟩
theorem PtO.upd (h : PtO w G A n c L) (u : Upd S w w') (dA : ∀ k, At A k → ¬ S k) (dG : ∀ k, k < w.heap.size → G k → ¬ S k) : PtO w' G A n c L := by
  obtain ⟨h1, cs, h2, h3⟩ := h
  exact ⟨h1, cs, h2.upd u dA, h3.mono u (fun k hk hg => dG k hk hg.1) (fun _ _ h => h)⟩
theorem PtO.mono (h : PtO w G A n c L) (hG : ∀ k, k < w.heap.size → G k → G' k) : PtO w G' A n c L := by
  obtain ⟨h1, cs, h2, h3⟩ := h
  exact ⟨h1, cs, h2, h3.mono (Upd.refl (S := Non)) (fun _ _ _ f => f) (fun k hk hg => ⟨hG k hk hg.1, hg.2⟩)⟩
theorem PtO.le (h : PtO w G A n c L) : n ≤ c := by obtain ⟨_, _, h2, _⟩ := h; exact h2.le
theorem PtO.lt (h : PtO w G A n c L) {k : Nat} (hk : At A k) : k < w.heap.size := by obtain ⟨_, _, h2, _⟩ := h; exact h2.lt hk
theorem PtO.view (h : PtO w G A n c L) (hA : ∀ k, At A k → F k) (hG : ∀ k, k < w.heap.size → G k → F k) (v op imm iv : Int) : PtK w F (.mk v op imm iv L) A c := by
  obtain ⟨rfl, cs, h2, h3⟩ := h
  rw [PtK.iff]
  refine ⟨h2.le, ?_⟩
  rcases h2.cases with ⟨_, h0, _, _⟩ | ⟨g, cur, rfl, hb, _, _, _, ht⟩
  · exact .inl (List.eq_nil_of_length_eq_zero h0)
  · refine .inr ⟨g, 0, rfl, hA g (At.some_.2 rfl), PtL.of fun i hi => ?_⟩
    have hl := h3.1
    obtain ⟨KA, kc, c1, c5⟩ := h3.2 i hi
    have hcell : ∀ j u, cs[j]? = some u → w.cell? ⟨g, j, none⟩ = some u := by
      intro j u hj
      rw [hb.cell]
      rw [← ht] at hj
      rw [List.getElem?_take] at hj
      split at hj
      · simpa using hj
      · cases hj
    have e : 0 + i * 5 = 5 * i := by omega
    refine ⟨KA, kc, ?_, ?_, ?_, ?_, ?_, PtK.mono (fun k hk hg => hG k hk hg.1) _ _ _ c5⟩
    · rw [e]; exact hcell _ _ (c1 0 (by omega))
    · rw [e]; exact hcell _ _ (c1 1 (by omega))
    · rw [e]; exact hcell _ _ (c1 2 (by omega))
    · rw [e]; exact hcell _ _ (c1 3 (by omega))
    · rw [e]; exact hcell _ _ (c1 4 (by omega))
/-- One pattern more. -/
theorem PtO.snoc {cs : List Value} (h : PtO w G A n c L) (hc : PtCells w (fun k => G k ∧ ¬ At A k) cs L) {p : Pt} {KA : Option Addr} {kc : Nat} (hk : PtK w (fun k => G k ∧ ¬ At A k) p KA kc)
    {A' : Option Addr} {c' : Nat} (ho : Own w' 30 5 A' (n + 1) c' (cs ++ pcells p KA kc)) (hu : Upd (At A) w w') (hat : ∀ k, At A' k → At A k ∨ k = w.heap.size) (hG : ∀ k, k < w.heap.size → G k → G' k) :
    PtO w' G' A' (n + 1) c' (L ++ [p]) := by
  refine ⟨by simp [h.1], _, ho, ?_⟩
  refine (hc.snoc hk).mono hu (fun k _ hg => hg.2) (fun k hk hg => ⟨hG k hk hg.1, fun hA => ?_⟩)
  rcases hat k hA with h | h
  · exact hg.2 h
  · omega
end
end Go.Proofs.Ytblkgjdhaibhgaa
