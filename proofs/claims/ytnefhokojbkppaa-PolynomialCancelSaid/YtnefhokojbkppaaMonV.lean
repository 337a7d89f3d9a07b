/-
  Monomials as they lie in memory: a list to read, a slice that the call owns. No condition of its own.
-/
import Derived.Test.YtnefhokojbkppaaGe
namespace Go.Proofs.Ytnefhokojbkppaa
open Go.RowKit

/-- A monomial: its exponents, its coefficient. -/
abbrev Mn := List Int × Int
theorem T_monos : SlT Try.prog 25 32 2 32 := by
  obtain ⟨i, h1, h2, h3, h4⟩ := info_parts (show (Try.prog.info? 32).map (fun i => (i.zero, i.size, i.bytes)) = some (some (.agg #[.slice none 0 0, .int .u64 0]), 2, 32) from by kernel_rfl)
  exact ⟨Try.underlying25, ⟨i, _, h1, h2, h3, h4, rfl⟩, by omega⟩
/-- The list of monomials at A. -/
def MonsV (w : World) (F : Nat → Prop) (A : Option Addr) (L : List Mn) : Prop :=
  L = [] ∨ ∃ b o, A = some ⟨b, o, none⟩ ∧ F b ∧ ∀ i (h : i < L.length), ∃ KA kc, w.cell? ⟨b, o + i * 2, none⟩ = some (.slice KA L[i].1.length kc) ∧ w.cell? ⟨b, o + i * 2 + 1, none⟩ = some (.int .u64 L[i].2) ∧ L[i].1.length ≤ kc ∧ Ints w F KA L[i].1
section
variable {w w' : World} {F G G' S : Nat → Prop} {A : Option Addr} {L : List Mn} {n c : Nat}
theorem MonsV.nil : MonsV w F A [] := .inl rfl
theorem MonsV.at_ (h : MonsV w F A L) {i : Nat} (hi : i < L.length) : ∃ b o, A = some ⟨b, o, none⟩ ∧ F b ∧ b < w.heap.size ∧ ∃ KA kc, w.cell? ⟨b, o + i * 2, none⟩ = some (.slice KA L[i].1.length kc) ∧ w.cell? ⟨b, o + i * 2 + 1, none⟩ = some (.int .u64 L[i].2) ∧ L[i].1.length ≤ kc ∧ Ints w F KA L[i].1 := by
  rcases h with h | ⟨b, o, e, hF, h⟩
  · subst h; simp at hi
  · obtain ⟨KA, kc, h1, h2⟩ := h i hi
    exact ⟨b, o, e, hF, World.block_lt_of_cell? _ _ h1, KA, kc, h1, h2⟩
theorem MonsV.upd (h : MonsV w F A L) (u : Upd S w w') (d : ∀ k, k < w.heap.size → F k → ¬ S k) : MonsV w' F A L := by
  rcases h with h | ⟨b, o, e, hF, h⟩
  · exact .inl h
  · refine .inr ⟨b, o, e, hF, fun i hi => ?_⟩
    obtain ⟨KA, kc, h1, h2, h3, h4⟩ := h i hi
    have hb : ¬ S b := d b (World.block_lt_of_cell? _ _ h1) hF
    exact ⟨KA, kc, cell_upd h1 u hb, cell_upd h2 u hb, h3, h4.upd u d⟩
theorem MonsV.mono (h : MonsV w F A L) (hFG : ∀ k, k < w.heap.size → F k → G k) : MonsV w G A L := by
  rcases h with h | ⟨b, o, e, hF, h⟩
  · exact .inl h
  · by_cases hn : L = []
    · exact .inl hn
    · obtain ⟨_, _, h0, _⟩ := h 0 (List.length_pos_iff.2 hn)
      refine .inr ⟨b, o, e, hFG b (World.block_lt_of_cell? _ _ h0) hF, fun i hi => ?_⟩
      obtain ⟨KA, kc, h1, h2, h3, h4⟩ := h i hi
      exact ⟨KA, kc, h1, h2, h3, h4.mono hFG⟩
/-- The cells of monomials, two each. -/
def MonCells (w : World) (K : Nat → Prop) (cs : List Value) (L : List Mn) : Prop :=
  cs.length = 2 * L.length ∧ ∀ i (h : i < L.length), ∃ KA kc, cs[2 * i]? = some (.slice KA L[i].1.length kc) ∧ cs[2 * i + 1]? = some (.int .u64 L[i].2) ∧ L[i].1.length ≤ kc ∧ Ints w K KA L[i].1
theorem MonCells.nil {K : Nat → Prop} : MonCells w K [] [] := ⟨rfl, fun i h => by simp at h⟩
theorem MonCells.mono {K K' S : Nat → Prop} {cs : List Value} (h : MonCells w K cs L) (u : Upd S w w') (d : ∀ k, k < w.heap.size → K k → ¬ S k) (hK : ∀ k, k < w.heap.size → K k → K' k) : MonCells w' K' cs L := by
  refine ⟨h.1, fun i hi => ?_⟩
  obtain ⟨KA, kc, h1, h2, h4, h5⟩ := h.2 i hi
  refine ⟨KA, kc, h1, h2, h4, ?_⟩
  exact ((h5.mono (G := fun k => K' k ∧ K k) (fun k hk hK0 => ⟨hK k hk hK0, hK0⟩)).upd u (fun k hk hk' => d k hk hk'.2)).mono (fun _ _ h => h.1)
theorem MonCells.snoc {K : Nat → Prop} {cs : List Value} (h : MonCells w K cs L) {m : Mn} {KA : Option Addr} {kc : Nat} (hk : Ints w K KA m.1) (hkc : m.1.length ≤ kc) :
    MonCells w K (cs ++ [.slice KA m.1.length kc, .int .u64 m.2]) (L ++ [m]) := by
  refine ⟨by simp [h.1]; omega, fun i hi => ?_⟩
  by_cases hlt : i < L.length
  · obtain ⟨KA, kc, h1, h2, h4, h5⟩ := h.2 i hlt
    have hl := h.1
    refine ⟨KA, kc, ?_, ?_, ?_, ?_⟩
    · rw [List.getElem?_append_left (by omega), List.getElem_append_left hlt]; exact h1
    · rw [List.getElem?_append_left (by omega), List.getElem_append_left hlt]; exact h2
    · rw [List.getElem_append_left hlt]; exact h4
    · rw [List.getElem_append_left hlt]; exact h5
  · have he : i = L.length := by simp at hi; omega
    subst he
    have hl := h.1
    refine ⟨KA, kc, ?_, ?_, ?_, ?_⟩
    · rw [List.getElem?_append_right (by omega), hl]; simp
    · rw [List.getElem?_append_right (by omega), hl]; simp
    · simpa using hkc
    · simpa using hk
/-- Monomials in a slice that the call owns; their exponents lie in blocks of G, elsewhere. -/
def MonsO (w : World) (G : Nat → Prop) (A : Option Addr) (n c : Nat) (L : List Mn) : Prop :=
  n = L.length ∧ ∃ cs, Own w 32 2 A n c cs ∧ MonCells w (fun k => G k ∧ ¬ At A k) cs L
theorem MonsO.none_ : MonsO w G none 0 0 [] := ⟨rfl, [], Own.none_, MonCells.nil⟩
theorem MonsO.upd (h : MonsO w G A n c L) (u : Upd S w w') (dA : ∀ k, At A k → ¬ S k) (dG : ∀ k, k < w.heap.size → G k → ¬ S k) : MonsO w' G A n c L := by
  obtain ⟨h1, cs, h2, h3⟩ := h
  exact ⟨h1, cs, h2.upd u dA, h3.mono u (fun k hk hg => dG k hk hg.1) (fun _ _ h => h)⟩
theorem MonsO.mono (h : MonsO w G A n c L) (hG : ∀ k, k < w.heap.size → G k → G' k) : MonsO w G' A n c L := by
  obtain ⟨h1, cs, h2, h3⟩ := h
  exact ⟨h1, cs, h2, h3.mono (Upd.refl (S := Non)) (fun _ _ _ f => f) (fun k hk hg => ⟨hG k hk hg.1, hg.2⟩)⟩
theorem MonsO.le (h : MonsO w G A n c L) : n ≤ c := by obtain ⟨_, _, h2, _⟩ := h; exact h2.le
theorem MonsO.view (h : MonsO w G A n c L) (hA : ∀ k, At A k → F k) (hG : ∀ k, k < w.heap.size → G k → F k) : MonsV w F A L := by
  obtain ⟨rfl, cs, h2, h3⟩ := h
  rcases h2.cases with ⟨_, h0, _, _⟩ | ⟨g, cur, rfl, hb, _, _, _, ht⟩
  · exact .inl (List.eq_nil_of_length_eq_zero h0)
  · refine .inr ⟨g, 0, rfl, hA g (At.some_.2 rfl), fun i hi => ?_⟩
    have hl := h3.1
    obtain ⟨KA, kc, c1, c2, c4, c5⟩ := h3.2 i hi
    have hcell : ∀ j u, cs[j]? = some u → w.cell? ⟨g, j, none⟩ = some u := by
      intro j u hj
      rw [hb.cell]
      rw [← ht] at hj
      rw [List.getElem?_take] at hj
      split at hj
      · simpa using hj
      · cases hj
    refine ⟨KA, kc, ?_, ?_, c4, c5.mono (fun k hk hg => hG k hk hg.1)⟩
    · rw [Nat.zero_add, Nat.mul_comm]; exact hcell _ _ c1
    · rw [Nat.zero_add, Nat.mul_comm]; exact hcell _ _ c2
/-- One monomial more. -/
theorem MonsO.snoc {cs : List Value} (h : MonsO w G A n c L) (hc : MonCells w (fun k => G k ∧ ¬ At A k) cs L) {m : Mn} {KA : Option Addr} {kc : Nat} (hk : Ints w (fun k => G k ∧ ¬ At A k) KA m.1) (hkc : m.1.length ≤ kc)
    {A' : Option Addr} {c' : Nat} (ho : Own w' 32 2 A' (n + 1) c' (cs ++ [.slice KA m.1.length kc, .int .u64 m.2])) (hu : Upd (At A) w w') (hat : ∀ k, At A' k → At A k ∨ k = w.heap.size) (hG : ∀ k, k < w.heap.size → G k → G' k) :
    MonsO w' G' A' (n + 1) c' (L ++ [m]) := by
  refine ⟨by simp [h.1], _, ho, ?_⟩
  refine (hc.snoc hk hkc).mono hu (fun k _ hg => hg.2) (fun k hk hg => ⟨hG k hk hg.1, fun hA => ?_⟩)
  rcases hat k hA with h | h
  · exact hg.2 h
  · omega
end
end Go.Proofs.Ytnefhokojbkppaa
