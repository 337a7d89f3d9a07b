/-
  Memory while keep.Nodes makes a node: the nodes so far, the node's own block, the seeds. No condition of its own.
-/
import Derived.Test.YtlehiklgbladoaaNodesP
import Derived.Test.YtlehiklgbladoaaWordC
namespace Go.Proofs.Ytlehiklgbladoaa
open Go.RowKit

theorem T_nodes : SlT Try.prog 25 24 3 40 := by
  obtain ⟨i, h1, h2, h3, h4⟩ := info_parts (show (Try.prog.info? 24).map (fun i => (i.zero, i.size, i.bytes)) = some (some (.agg #[.int .i64 0, .int .i64 0, .slice none 0 0]), 3, 40) from by kernel_rfl)
  exact ⟨Try.underlying25, ⟨i, _, h1, h2, h3, h4, rfl⟩, by omega⟩

theorem updCell (w : World) (b i : Nat) (v : Value) : Upd (· = b) w (w.setCell ⟨b, i, none⟩ v) := Upd.refl.setCell (S := (· = b)) (p := ⟨b, i, none⟩) (.inl rfl) _

/-- The cells of nodes, three a node. -/
def NodeCells (w : World) (K : Nat → Prop) (cs : List Value) (L : List Nd) : Prop :=
  cs.length = 3 * L.length ∧ ∀ i (h : i < L.length), ∃ KA kc, cs[3 * i]? = some (.int .i64 L[i].op) ∧ cs[3 * i + 1]? = some (.int .i64 L[i].imm) ∧ cs[3 * i + 2]? = some (.slice KA L[i].kids.length kc) ∧ L[i].kids.length ≤ kc ∧ Ints w K KA L[i].kids

theorem NodeCells.nil {w : World} {K : Nat → Prop} : NodeCells w K [] [] := ⟨rfl, fun i h => by simp at h⟩
theorem NodeCells.mono {w w' : World} {K K' S : Nat → Prop} {cs : List Value} {L : List Nd} (h : NodeCells w K cs L) (u : Upd S w w') (d : ∀ k, k < w.heap.size → K k → ¬ S k) (hK : ∀ k, k < w.heap.size → K k → K' k) : NodeCells w' K' cs L := by
  refine ⟨h.1, fun i hi => ?_⟩
  obtain ⟨KA, kc, h1, h2, h3, h4, h5⟩ := h.2 i hi
  refine ⟨KA, kc, h1, h2, h3, h4, ?_⟩
  exact ((h5.mono (G := fun k => K' k ∧ K k) (fun k hk hK0 => ⟨hK k hk hK0, hK0⟩)).upd u (fun k hk hk' => d k hk hk'.2)).mono (fun _ _ h => h.1)
theorem NodeCells.snoc {w : World} {K : Nat → Prop} {cs : List Value} {L : List Nd} (h : NodeCells w K cs L) {nd : Nd} {KA : Option Addr} {kc : Nat} (hk : Ints w K KA nd.kids) (hkc : nd.kids.length ≤ kc) :
    NodeCells w K (cs ++ [.int .i64 nd.op, .int .i64 nd.imm, .slice KA nd.kids.length kc]) (L ++ [nd]) := by
  refine ⟨by simp [h.1]; omega, fun i hi => ?_⟩
  by_cases hlt : i < L.length
  · obtain ⟨KA, kc, h1, h2, h3, h4, h5⟩ := h.2 i hlt
    have hl := h.1
    refine ⟨KA, kc, ?_, ?_, ?_, ?_, ?_⟩
    · rw [List.getElem?_append_left (by omega), List.getElem_append_left hlt]; exact h1
    · rw [List.getElem?_append_left (by omega), List.getElem_append_left hlt]; exact h2
    · rw [List.getElem?_append_left (by omega), List.getElem_append_left hlt]; exact h3
    · rw [List.getElem_append_left hlt]; exact h4
    · rw [List.getElem_append_left hlt]; exact h5
  · have he : i = L.length := by simp at hi; omega
    subst he
    have hl := h.1
    refine ⟨KA, kc, ?_, ?_, ?_, ?_, ?_⟩
    · rw [List.getElem?_append_right (by omega), hl]; simp
    · rw [List.getElem?_append_right (by omega), hl]; simp
    · rw [List.getElem?_append_right (by omega), hl]; simp
    · simpa using hkc
    · simpa using hk

/-- Nodes in a slice that the call owns; their operands lie in blocks of G, elsewhere. -/
def NodesO (w : World) (G : Nat → Prop) (A : Option Addr) (n c : Nat) (L : List Nd) : Prop :=
  n = L.length ∧ ∃ cs, Own w 24 3 A n c cs ∧ NodeCells w (fun k => G k ∧ ¬ At A k) cs L
section
variable {w w' : World} {G G' S F : Nat → Prop} {A : Option Addr} {n c : Nat} {L : List Nd}
theorem NodesO.upd (h : NodesO w G A n c L) (u : Upd S w w') (dA : ∀ k, At A k → ¬ S k) (dG : ∀ k, k < w.heap.size → G k → ¬ S k) : NodesO w' G A n c L := by
  obtain ⟨h1, cs, h2, h3⟩ := h
  exact ⟨h1, cs, h2.upd u dA, h3.mono u (fun k hk hg => dG k hk hg.1) (fun _ _ h => h)⟩
theorem NodesO.mono (h : NodesO w G A n c L) (hG : ∀ k, k < w.heap.size → G k → G' k) : NodesO w G' A n c L := by
  obtain ⟨h1, cs, h2, h3⟩ := h
  exact ⟨h1, cs, h2, h3.mono (Upd.refl (S := Non)) (fun _ _ _ f => f) (fun k hk hg => ⟨hG k hk hg.1, hg.2⟩)⟩
theorem NodesO.view (h : NodesO w G A n c L) (hA : ∀ k, At A k → F k) (hG : ∀ k, k < w.heap.size → G k → F k) : NodesV w F A L := by
  obtain ⟨rfl, cs, h2, h3⟩ := h
  rcases h2.cases with ⟨_, h0, _, _⟩ | ⟨g, cur, rfl, hb, _, _, _, ht⟩
  · exact .inl (List.eq_nil_of_length_eq_zero h0)
  · refine .inr ⟨g, 0, rfl, hA g (At.some_.2 rfl), fun i hi => ?_⟩
    have hl := h3.1
    obtain ⟨KA, kc, c1, c2, c3, c4, c5⟩ := h3.2 i hi
    have hcell : ∀ j u, cs[j]? = some u → w.cell? ⟨g, j, none⟩ = some u := by
      intro j u hj
      rw [hb.cell]
      rw [← ht] at hj
      rw [List.getElem?_take] at hj
      split at hj
      · simpa using hj
      · cases hj
    refine ⟨?_, ?_, KA, kc, ?_, c4, c5.mono (fun k hk hg => hG k hk hg.1)⟩
    · rw [Nat.zero_add, Nat.mul_comm]; exact hcell _ _ c1
    · rw [Nat.zero_add, Nat.mul_comm]; exact hcell _ _ c2
    · rw [Nat.zero_add, Nat.mul_comm]; exact hcell _ _ c3
/-- One node more. -/
theorem NodesO.snoc {cs : List Value} (h : NodesO w G A n c L) (hc : NodeCells w (fun k => G k ∧ ¬ At A k) cs L) {nd : Nd} {KA : Option Addr} {kc : Nat} (hk : Ints w (fun k => G k ∧ ¬ At A k) KA nd.kids) (hkc : nd.kids.length ≤ kc)
    {A' : Option Addr} {c' : Nat} (ho : Own w' 24 3 A' (n + 1) c' (cs ++ [.int .i64 nd.op, .int .i64 nd.imm, .slice KA nd.kids.length kc])) (hu : Upd (At A) w w') (hat : ∀ k, At A' k → At A k ∨ k = w.heap.size) (hG : ∀ k, k < w.heap.size → G k → G' k) :
    NodesO w' G' A' (n + 1) c' (L ++ [nd]) := by
  refine ⟨by simp [h.1], _, ho, ?_⟩
  refine (hc.snoc hk hkc).mono hu (fun k _ hg => hg.2) (fun k hk hg => ⟨hG k hk hg.1, fun hA => ?_⟩)
  rcases hat k hA with h | h
  · exact hg.2 h
  · omega
end

/-- While a node is made: w0 is the world when its making began. -/
structure NSt (w0 : World) (bn p : Nat) (op imm : Int) (KA : Option Addr) (kids : List Int) (kc : Nat) (SA : Option Addr) (seeds : List Int) (sc : Nat) (wx : World) : Prop where
  upd : Upd Non w0 wx
  bnGe : w0.heap.size ≤ bn
  pGe : w0.heap.size ≤ p
  ne : bn ≠ p
  blk : Blk wx bn 24 #[.int .i64 op, .int .i64 imm, .slice KA kids.length kc]
  rd : Blk wx p 54 #[.slice SA seeds.length sc, .int .i64 0]
  sds : Ints wx (fun k => k ≠ p ∧ k ≠ bn ∧ ¬ At KA k) SA seeds
  sle : seeds.length ≤ sc
  own : Own wx 3 1 KA kids.length kc (icells kids)
  sep : ∀ k, At KA k → w0.heap.size ≤ k ∧ k ≠ bn ∧ k ≠ p

section
variable {w0 wx w' : World} {bn p : Nat} {op imm : Int} {KA SA : Option Addr} {kids seeds : List Int} {kc sc : Nat}
theorem NSt.start (w0 : World) (op a b c : Int) : NSt w0 (w0.heap.size + 1 + 1) (w0.heap.size + 1) op 0 none [] 0 (some ⟨w0.heap.size, 0, none⟩) [a, b, c] 3
    (((w0.alloc (.cells #[.int .i64 a, .int .i64 b, .int .i64 c] 3)).alloc (.cells #[.slice (some ⟨w0.heap.size, 0, none⟩) 3 3, .int .i64 0] 54)).alloc (.cells #[.int .i64 op, .int .i64 0, .slice none 0 0] 24)).drew := by
  refine ⟨(((Upd.refl.alloc _).alloc _).alloc _).drew, by omega, by omega, by omega, Blk.new' (by simp), (Blk.new' (n := w0.heap.size + 1) (by simp)).alloc _, ?_, by simp, Own.none_, fun k hk => (At.none_ hk).elim⟩
  have h := ((Ints.new (w := w0) (t := 3) (cs := #[.int .i64 a, .int .i64 b, .int .i64 c]) [a, b, c] rfl rfl).mono (G := fun k => k ≠ w0.heap.size + 1 ∧ k ≠ w0.heap.size + 1 + 1 ∧ ¬ At none k) (fun k hk _ => by simp at hk; exact ⟨by omega, by omega, At.none_⟩))
  exact (h.upd (Upd.refl.alloc (.cells #[.slice (some ⟨w0.heap.size, 0, none⟩) 3 3, .int .i64 0] 54) (S := Non)) (fun _ _ _ f => f)).upd (Upd.refl.alloc (.cells #[.int .i64 op, .int .i64 0, .slice none 0 0] 24) (S := Non)).drew (fun _ _ _ f => f)
theorem NSt.non (h : NSt w0 bn p op imm KA kids kc SA seeds sc wx) (u : Upd Non wx w') : NSt w0 bn p op imm KA kids kc SA seeds sc w' :=
  ⟨h.upd.then_non u, h.bnGe, h.pGe, h.ne, h.blk.upd u (fun f => f), h.rd.upd u (fun f => f), h.sds.upd u (fun _ _ _ f => f), h.sle, h.own.upd u (fun _ _ f => f), h.sep⟩
theorem NSt.setOp (h : NSt w0 bn p op imm KA kids kc SA seeds sc wx) (op' : Int) : NSt w0 bn p op' imm KA kids kc SA seeds sc (wx.setCell ⟨bn, 0, none⟩ (.int .i64 op')) := by
  have u : Upd (· = bn) wx (wx.setCell ⟨bn, 0, none⟩ (.int .i64 op')) := updCell _ _ _ _
  refine ⟨h.upd.trans u (fun i hi e => by have := h.bnGe; omega), h.bnGe, h.pGe, h.ne, ?_, h.rd.upd u (fun e => h.ne e.symm), h.sds.upd u (fun _ _ hk e => hk.2.1 e), h.sle, h.own.upd u (fun k hk e => (h.sep k hk).2.1 e), h.sep⟩
  simpa using h.blk.set_ 0 (.int .i64 op')
theorem NSt.setImm (h : NSt w0 bn p op imm KA kids kc SA seeds sc wx) (imm' : Int) : NSt w0 bn p op imm' KA kids kc SA seeds sc (wx.setCell ⟨bn, 1, none⟩ (.int .i64 imm')) := by
  have u : Upd (· = bn) wx (wx.setCell ⟨bn, 1, none⟩ (.int .i64 imm')) := updCell _ _ _ _
  refine ⟨h.upd.trans u (fun i hi e => by have := h.bnGe; omega), h.bnGe, h.pGe, h.ne, ?_, h.rd.upd u (fun e => h.ne e.symm), h.sds.upd u (fun _ _ hk e => hk.2.1 e), h.sle, h.own.upd u (fun k hk e => (h.sep k hk).2.1 e), h.sep⟩
  simpa using h.blk.set_ 1 (.int .i64 imm')
/-- A seed read. -/
theorem NSt.next {SA' : Option Addr} {sc' : Nat} (h : NSt w0 bn p op imm KA kids kc SA seeds sc wx) (hr : Blk w' p 54 #[.slice SA' seeds.tail.length sc', .int .i64 0]) (hs : Ints w' (fun k => k ≠ p ∧ k ≠ bn ∧ ¬ At KA k) SA' seeds.tail) (hl : seeds.tail.length ≤ sc')
    (u : Upd (· = p) wx w') : NSt w0 bn p op imm KA kids kc SA' seeds.tail sc' w' :=
  ⟨h.upd.trans u (fun i hi e => by have := h.pGe; omega), h.bnGe, h.pGe, h.ne, h.blk.upd u h.ne, hr, hs, hl, h.own.upd u (fun k hk e => (h.sep k hk).2.2 e), h.sep⟩
/-- An operand appended and stored. -/
theorem NSt.app {KA' : Option Addr} {kc' : Nat} {x : Int} (h : NSt w0 bn p op imm KA kids kc SA seeds sc wx) (ho : Own w' 3 1 KA' (kids.length + 1) kc' (icells kids ++ [.int .i64 x])) (u : Upd (At KA) wx w') (hat : ∀ k, At KA' k → At KA k ∨ wx.heap.size ≤ k) :
    NSt w0 bn p op imm KA' (kids ++ [x]) kc' SA seeds sc (w'.setCell ⟨bn, 2, none⟩ (.slice KA' (kids.length + 1) kc')) := by
  have u2 : Upd (· = bn) w' (w'.setCell ⟨bn, 2, none⟩ (.slice KA' (kids.length + 1) kc')) := updCell _ _ _ _
  have hsz := h.upd.size
  have hb := h.blk.lt
  have hp := h.rd.lt
  have sep' : ∀ k, At KA' k → w0.heap.size ≤ k ∧ k ≠ bn ∧ k ≠ p := fun k hk => by
    rcases hat k hk with q | q
    · exact h.sep k q
    · exact ⟨by omega, by omega, by omega⟩
  have hb' := h.blk.upd u (fun q => (h.sep _ q).2.1 rfl)
  refine ⟨(h.upd.trans u (fun i hi q => by have := (h.sep i q).1; omega)).trans u2 (fun i hi e => by have := h.bnGe; omega), h.bnGe, h.pGe, h.ne, ?_, (h.rd.upd u (fun q => (h.sep _ q).2.2 rfl)).upd u2 (fun e => h.ne e.symm), ?_, h.sle, ?_, sep'⟩
  · have := hb'.set_ 2 (.slice KA' (kids.length + 1) kc')
    simpa using this
  · have h1 := h.sds.mono (G := fun k => (k ≠ p ∧ k ≠ bn ∧ ¬ At KA' k) ∧ ¬ At KA k) (fun k hk q => ⟨⟨q.1, q.2.1, fun hA => by
      rcases hat k hA with r | r
      · exact q.2.2 r
      · omega⟩, q.2.2⟩)
    exact ((h1.upd u (fun k _ q => q.2)).upd u2 (fun k _ q e => q.1.2.1 e)).mono (fun k _ q => q.1)
  · have := ho.upd u2 (fun k hk e => (sep' k hk).2.1 e)
    rw [icells_snoc]
    simpa using this
end
end Go.Proofs.Ytlehiklgbladoaa
