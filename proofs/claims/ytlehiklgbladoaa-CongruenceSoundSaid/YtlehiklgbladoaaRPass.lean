/-
  The reference's pass over all pairs of nodes: plain Lean.
-/
import Derived.Test.YtlehiklgbladoaaPass
namespace Go.Proofs.Ytlehiklgbladoaa

structure PassR (L : List Nd) (ps : List (Int × Int)) (c0 : Nat → Nat) (j i : Nat) (on : Bool) (c : Nat → Nat) : Prop where
  named : Named L.length c
  snd : Snd L ps c
  prs : pairsIn L ps c
  off : on = false → c = c0 ∧ ∀ j' i' (hj : j' < L.length) (hi : i' < L.length), (j' < j ∨ (j' = j ∧ i' < i)) → i' < j' → Cg L.length c L[i'] L[j'] → c i' = c j'
  on_ : on = true → roots L.length c < roots L.length c0

section
variable {L : List Nd} {ps : List (Int × Int)} {c0 c : Nat → Nat} {j i : Nat} {on : Bool}
theorem PassR.start (h1 : Named L.length c) (h2 : Snd L ps c) (h3 : pairsIn L ps c) : PassR L ps c 0 0 false c :=
  ⟨h1, h2, h3, fun _ => ⟨rfl, fun _ _ _ _ h => by omega⟩, by simp⟩
theorem PassR.next (h : PassR L ps c0 j j on c) : PassR L ps c0 (j + 1) 0 on c :=
  ⟨h.named, h.snd, h.prs, fun ho => ⟨(h.off ho).1, fun j' i' hj hi h1 h2 h3 => (h.off ho).2 j' i' hj hi (by omega) h2 h3⟩, h.on_⟩
theorem PassR.skip (h : PassR L ps c0 j i on c) (hj : j < L.length) (hi : i < L.length) (hs : Cg L.length c L[i] L[j] → c i = c j) : PassR L ps c0 j (i + 1) on c := by
  refine ⟨h.named, h.snd, h.prs, fun ho => ⟨(h.off ho).1, fun j' i' hj' hi' h1 h2 h3 => ?_⟩, h.on_⟩
  by_cases e : j' = j ∧ i' = i
  · obtain ⟨rfl, rfl⟩ := e; exact hs h3
  · exact (h.off ho).2 j' i' hj' hi' (by omega) h2 h3
theorem PassR.join (h : PassR L ps c0 j i on c) (hj : j < L.length) (hi : i < L.length) (hg : Cg L.length c L[i] L[j]) (hc : c i ≠ c j) : PassR L ps c0 j (i + 1) true (joinc c i j) := by
  have hroots := roots_join h.named hi hj hc
  refine ⟨h.named.join hi hj, h.snd.join hi hj (fun d hr => hr.cong i j hi hj (h.snd.cg hg hr)), fun p hp i1 i2 => joinc_keeps (h.prs p hp i1 i2), by simp, fun _ => ?_⟩
  cases ho : on with
  | false => rw [(h.off ho).1] at hroots; rw [(h.off ho).1]; exact hroots
  | true => have := h.on_ ho; omega
theorem PassR.closed (h : PassR L ps c0 L.length 0 false c) : IsCl L ps c := by
  refine ⟨h.named, ⟨h.prs, fun i j hi hj hcg => ?_⟩, h.snd⟩
  rcases Nat.lt_trichotomy i j with hlt | rfl | hlt
  · exact (h.off rfl).2 j i hj hi (.inl hj) hlt hcg
  · rfl
  · exact ((h.off rfl).2 i j hi hj (.inl hi) hlt hcg.symm).symm
end
end Go.Proofs.Ytlehiklgbladoaa
