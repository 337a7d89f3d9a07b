/-
  What PolynomialSound leans on, in plain terms. No condition of its own.
-/
import Derived.Test.YtnefhokojbkppaaEvP
import Derived.Test.YtnefhokojbkppaaRVal3
namespace Go.Proofs.Ytnefhokojbkppaa
open Go.RowKit

def evM (ins : List Int) (L : List Mn) : Int := lsum (L.map fun t => t.2 * monV ins t.1)
theorem evM_mns (ins : List Int) (r : PL) : evM ins (mns r) = evP ins r := by
  unfold evM evP mns
  rw [List.map_map]
  rfl
theorem evM_snoc (ins : List Int) (L : List Mn) (m : Mn) : evM ins (L ++ [m]) = evM ins L + m.2 * monV ins m.1 := by
  unfold evM
  rw [List.map_append, lsum_append]
  simp [lsum]
theorem exps_inj : ∀ {a b : Mon}, exps a = exps b → a = b
  | [], [], _ => rfl
  | [], _ :: _, h => by simp [exps] at h
  | _ :: _, [], h => by simp [exps] at h
  | x :: a, y :: b, h => by
    unfold exps at h
    simp only [List.map_cons, List.cons.injEq] at h
    have h1 : x.toNat = y.toNat := by omega
    rw [UInt8.toNat_inj.1 h1, exps_inj (a := a) (b := b) h.2]
theorem le_deg {x : UInt8} : ∀ {k : Mon}, x ∈ k → x.toNat ≤ deg k
  | y :: k, h => by
    rw [deg_cons]
    rcases List.mem_cons.1 h with rfl | h
    · omega
    · have := le_deg h; omega
theorem valid_norm {q : Pt} (h : validF q 3 0 = true) : normF q 3 = tm 3 q := by unfold normF; rw [if_pos h]; rfl
theorem valid_size {q : Pt} (h : validF q 3 0 = true) : q.size ≤ 24 := by
  unfold validF at h
  simp only [Bool.and_eq_true, decide_eq_true_eq] at h
  exact h.1.2.2.2.2
theorem valid_wf {q : Pt} (h : validF q 3 0 = true) : WfP 3 q := by
  unfold validF at h
  simp only [Bool.and_eq_true] at h
  have := wf_of_vPt q _ _ _ h.2
  rwa [List.length_replicate] at this
theorem norm_some {q : Pt} (hq : PolyPt 3 q) : (normF q 3).isSome = validF q 3 0 := by
  cases h : validF q 3 0 with
  | true =>
    obtain ⟨l, hl⟩ := PolyPt.wf (n := 3) hq
    rw [valid_norm h, hl]; rfl
  | false => unfold normF; rw [h]; rfl
/-- What holds of a normal form. -/
theorem snd_facts {q : Pt} (hq : PolyPt 3 q) (hv : validF q 3 0 = true) {r : PL} (z : NzIs 3 (normF q 3) r) (ins : List Int) (hi : ins.length = 3) (hI : ∀ x ∈ ins, I64 x) :
    (∀ t ∈ mns r, t.1.length = 3 ∧ 0 < t.2 ∧ t.2 < 18446744073709551616 ∧ ∀ e ∈ t.1, 0 ≤ e ∧ e ≤ 100) ∧ (∀ i k (h : i < (mns r).length) (g : k < (mns r).length), k < i → (mns r)[i].1 ≠ (mns r)[k].1) ∧
      ∃ v, evF ins q = some v ∧ I64 v ∧ v % 18446744073709551616 = evM ins (mns r) % 18446744073709551616 := by
  obtain ⟨l, hl⟩ := PolyPt.wf (n := 3) hq
  obtain ⟨_, _, h1, _⟩ := z
  obtain ⟨hnf, he⟩ := h1 l (by rw [valid_norm hv, hl])
  have hs := valid_size hv
  obtain ⟨hd, v, hv1, hv2, hv3⟩ := ev_tm (n := 3) hq ins hi hI l hl (by omega)
  refine ⟨fun t ht => ?_, fun i k h g hki => ?_, v, hv1, hv2, ?_⟩
  · obtain ⟨s, hs2, rfl⟩ := List.mem_map.1 ht
    have ho := hnf.ok s hs2
    obtain ⟨u, hu, hue⟩ := hnf.mem he s hs2
    have hdu := hd u hu
    rw [hue] at hdu
    refine ⟨by simp only [exps, List.length_map]; exact ho.1, ho.2.1, ho.2.2, fun e hee => ?_⟩
    obtain ⟨x, hx, rfl⟩ := List.mem_map.1 hee
    have := le_deg hx
    omega
  · have h' : i < r.length := by rw [← mns_len r]; exact h
    have g' : k < r.length := by rw [← mns_len r]; exact g
    have hp := List.pairwise_iff_getElem.1 hnf.srt k i g' h' hki
    intro e
    simp only [mns, List.getElem_map] at e
    rw [exps_inj e] at hp
    exact List.lt_irrefl _ hp
  · rw [hv3, evM_mns, evP_eqv ins he]
theorem i64_eq {x y : Int} (hx : I64 x) (hy : I64 y) (h : x % 18446744073709551616 = y % 18446744073709551616) : x = y := by unfold I64 at *; omega
end Go.Proofs.Ytnefhokojbkppaa
