/-
  The classes partition the nodes; each member is congruent to exactly one of the chosen members. Plain Lean: no program in sight.
-/
import Derived.Test.YtigambcefdeaoaaLCg
namespace Go.Proofs.Ytigambcefdeaoaa

theorem sum_zero {α : Type} (g : α → Nat) : ∀ (l : List α), (∀ x ∈ l, g x = 0) → (l.map g).sum = 0
  | [], _ => rfl
  | x :: l, h => by rw [List.map_cons, List.sum_cons, h x (by simp), sum_zero g l (fun y hy => h y (by simp [hy]))]
theorem sum_hit (f : Nat) : ∀ (rs : List Nat), rs.Nodup → f ∈ rs → (rs.map fun r => if f == r then 1 else 0).sum = 1
  | [], _, h => by simp at h
  | r :: rs, hn, h => by
    obtain ⟨h1, h2⟩ := List.nodup_cons.1 hn
    rw [List.map_cons, List.sum_cons]
    by_cases e : f = r
    · subst e
      have : (rs.map fun r => if f == r then 1 else 0).sum = 0 := sum_zero _ rs (fun y hy => by
        have : ¬ f = y := fun e => h1 (e ▸ hy)
        simp [this])
      rw [this]; simp
    · have h3 : f ∈ rs := by
        rcases List.mem_cons.1 h with q | q
        · exact absurd q e
        · exact q
      rw [sum_hit f rs h2 h3]
      simp [e]
theorem sum_add {α : Type} (f g : α → Nat) : ∀ (l : List α), (l.map fun x => f x + g x).sum = (l.map f).sum + (l.map g).sum
  | [] => rfl
  | x :: l => by
    simp only [List.map_cons, List.sum_cons]
    rw [sum_add f g l]; omega
theorem sum_parts (c : Nat → Nat) (rs : List Nat) (hn : rs.Nodup) : ∀ (xs : List Nat), (∀ x ∈ xs, c x ∈ rs) → (rs.map fun r => (xs.filter fun k => c k == r).length).sum = xs.length
  | [], _ => sum_zero _ rs (fun _ _ => rfl)
  | x :: xs, h => by
    have ih := sum_parts c rs hn xs (fun y hy => h y (by simp [hy]))
    have h1 := sum_hit (c x) rs hn (h x (by simp))
    have : (rs.map fun r => ((x :: xs).filter fun k => c k == r).length) = rs.map fun r => (if c x == r then 1 else 0) + (xs.filter fun k => c k == r).length := by
      apply List.map_congr_left
      intro r _
      rw [List.filter_cons]
      split <;> simp_all <;> omega
    rw [this, sum_add, h1, ih]
    simp; omega
/-- The roots. -/
def rootsL (c : Nat → Nat) (n : Nat) : List Nat := (List.range n).filter fun i => c i == i
theorem classesTo_roots (c : Nat → Nat) (n : Nat) : classesTo c n = (rootsL c n).map fun (i : Nat) => (i : Int) := rfl
theorem rootsL_mem {c : Nat → Nat} {n r : Nat} (h : r ∈ rootsL c n) : r < n ∧ c r = r := by
  have := List.mem_filter.1 h
  exact ⟨List.mem_range.1 this.1, by simpa using this.2⟩
theorem sum_classes {n : Nat} {c : Nat → Nat} (h : Named n c) : ((rootsL c n).map fun r => (memL n c r).length).sum = n := by
  have := sum_parts c (rootsL c n) (List.Pairwise.filter _ List.nodup_range) (List.range n) (fun x hx => by
    have hx := List.mem_range.1 hx
    exact List.mem_filter.2 ⟨List.mem_range.2 (h.lt hx), by simpa using h.idem x hx⟩)
  rw [List.length_range] at this
  unfold memL
  simpa using this
/-- The smallest member of a class is its root. -/
theorem memL_head {n : Nat} {c : Nat → Nat} (h : Named n c) {r : Nat} (hr : r < n) (hc : c r = r) : ∃ t, memL n c r = (r : Int) :: t := by
  have hmem : r ∈ (List.range n).filter fun k => c k == r := List.mem_filter.2 ⟨List.mem_range.2 hr, by simpa using hc⟩
  unfold memL
  cases e : (List.range n).filter fun k => c k == r with
  | nil => rw [e] at hmem; cases hmem
  | cons x t =>
    have hx : x ∈ (List.range n).filter fun k => c k == r := by rw [e]; simp
    have h1 := List.mem_filter.1 hx
    have hxn := List.mem_range.1 h1.1
    have hxr : c x = r := by simpa using h1.2
    have hle := h.le x hxn
    have hs : ((List.range n).filter fun k => c k == r).Pairwise (· < ·) := (List.pairwise_lt_range (n := n)).filter _
    rw [e] at hs hmem
    have hp := List.pairwise_cons.1 hs
    rcases List.mem_cons.1 hmem with q | q
    · subst q; exact ⟨_, rfl⟩
    · have := hp.1 r q; omega
theorem classF_root {G : EG} {r : Nat} (hr : r < G.L.length) (hc : G.c r = r) : classF G (r : Int) = memL G.L.length G.c r := by
  unfold classF
  rw [if_pos ⟨by omega, by omega⟩, Int.toNat_natCast, hc]
/-- How many of the chosen members have a given key. -/
theorem dist_count (c : Nat → Nat) (L : List Nd) (l : List Int) (s : ByteArray) : ∀ j, j ≤ l.length → ((distTo c L l j).filter fun k => decide (ck c (L.getD k.toNat nd0) = s)).length = if seenB c L (l.take j) s then 1 else 0
  | 0, _ => by simp [distTo, seenB]
  | j + 1, h => by
    have ih := dist_count c L l s j (by omega)
    have hj : j < l.length := by omega
    have ht : l.take (j + 1) = l.take j ++ [l[j]] := List.take_succ_eq_append_getElem hj
    rw [ht, seenB_snoc]
    unfold distTo
    rw [getD_of hj]
    generalize l[j] = x at *
    cases hb : seenB c L (l.take j) (ck c (L.getD x.toNat nd0)) with
    | true =>
      simp only [cond_true]
      rw [ih]
      by_cases e : ck c (L.getD x.toNat nd0) = s
      · rw [← e, hb]; simp
      · rw [decide_eq_false e]; simp
    | false =>
      simp only [cond_false]
      rw [List.filter_append, List.length_append, ih]
      by_cases e : ck c (L.getD x.toNat nd0) = s
      · rw [List.filter_cons_of_pos (by rw [e]; simp), ← e, hb]; simp
      · rw [List.filter_cons_of_neg (by simpa using e), decide_eq_false e]; simp
theorem dist_head (c : Nat → Nat) (L : List Nd) {x : Int} {t : List Int} : ∀ j, ∃ u, distTo c L (x :: t) (j + 1) = x :: u
  | 0 => ⟨[], by simp [distTo, seenB]⟩
  | j + 1 => by
    obtain ⟨u, hu⟩ := dist_head c L (x := x) (t := t) j
    rw [distTo, hu]
    cases seenB c L ((x :: t).take (j + 1)) (ck c (L.getD ((x :: t).getD (j + 1) 0).toNat nd0)) with
    | true => exact ⟨u, rfl⟩
    | false => exact ⟨_, rfl⟩
theorem distTo_mem {c : Nat → Nat} {L : List Nd} {l : List Int} : ∀ {j : Nat}, j ≤ l.length → ∀ {x : Int}, x ∈ distTo c L l j → x ∈ l
  | 0, _, x, h => by simp [distTo] at h
  | j + 1, hj, x, h => by
    unfold distTo at h
    revert h
    cases seenB c L (l.take j) (ck c (L.getD (l.getD j 0).toNat nd0)) with
    | true => intro h; exact distTo_mem (by omega) h
    | false =>
      intro h
      simp only [cond_false, List.mem_append, List.mem_singleton] at h
      rcases h with h | h
      · exact distTo_mem (by omega) h
      · rw [h, getD_of (by omega)]; exact List.getElem_mem _
theorem seenB_mem {c : Nat → Nat} {L : List Nd} {l : List Int} {x : Int} (h : x ∈ l) : seenB c L l (ck c (L.getD x.toNat nd0)) = true := by
  unfold seenB
  rw [List.any_eq_true]
  exact ⟨x, h, by simp⟩
/-- Each member has exactly one chosen member of its key. -/
theorem dist_one {G : EG} {i x : Int} (h : x ∈ classF G i) : ((distF G i).filter fun k => decide (ck G.c (G.L.getD k.toNat nd0) = ck G.c (G.L.getD x.toNat nd0))).length = 1 := by
  unfold distF
  rw [dist_count G.c G.L (classF G i) _ _ (Nat.le_refl _), List.take_length, seenB_mem h, if_pos rfl]
theorem cgD_ck {G : EG} (hg : GWf G) {i k : Nat} (hi : i < G.L.length) (hk : k < G.L.length) : cgD G.c G.L[i].op G.L[i].imm G.L[k].op G.L[k].imm G.L[i].kids G.L[k].kids = decide (ck G.c (G.L.getD k nd0) = ck G.c (G.L.getD i nd0)) := by
  rw [Bool.eq_iff_iff, decide_eq_true_iff, hg.ck_eq hk hi, cgB_iff]
  unfold cgD
  rw [decide_eq_true_iff, getD_of hi, getD_of hk, ckids_eq]
  exact ⟨fun h => ⟨h.1.symm, h.2.1.symm, h.2.2.symm⟩, fun h => ⟨h.1.symm, h.2.1.symm, h.2.2.symm⟩⟩
end Go.Proofs.Ytigambcefdeaoaa
