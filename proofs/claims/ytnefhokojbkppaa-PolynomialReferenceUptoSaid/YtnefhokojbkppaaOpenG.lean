/-
  Arguments opened: lemmas for every seat: what a reading weighs, an integer, a slice of integers. No condition of its own.
-/
import Derived.Test.YtnefhokojbkppaaOpen
import Derived.Deep.Slices
namespace Go.Proofs.Ytnefhokojbkppaa
open Go.RowKit Go.WideShapes Go.ChangeShapes Go.ChangeAt

section
variable {H : Type} {enc : TypeId × Value → H} {P : Program} {w : World}

/-- What was read takes no more than the form's reach. -/
def Wt (P : Program) (t : TypeId) (d : DataW H) : Prop := ∀ n ∈ d.weights P t, n ≤ reachBytes
theorem Wt.of {ts : List TypeId} {ds : List (DataW H)} (hsz : (DataW.weightsEach P ts ds).all (· ≤ reachBytes) = true) {j : Nat} {t : TypeId} {d : DataW H} (htj : ts[j]? = some t) (hdj : ds[j]? = some d) : Wt P t d := fun n hn => by
  have := List.all_eq_true.1 hsz _ (DataW.weights_mem_each htj hdj n hn)
  simpa using this
theorem mem_weightsAll {e : TypeId} : ∀ {ds : List (DataW H)} {d : DataW H}, d ∈ ds → ∀ n ∈ d.weights P e, n ∈ DataW.weightsAll P e ds
  | d0 :: ds, d, h, n, hn => by
    simp only [DataW.weightsAll, List.mem_append]
    rcases List.mem_cons.1 h with rfl | h
    · exact .inl hn
    · exact .inr (mem_weightsAll h n hn)
theorem Wt.elem {t e : TypeId} {elems spare : List (DataW H)} (ht : P.underlying t = some (.slice e)) (h : Wt P t (.slice elems spare)) {d : DataW H} (hd : d ∈ elems) : Wt P e d := fun n hn =>
  h n (by simp only [DataW.weights, ht, List.mem_cons, List.mem_append]; exact .inr (.inl (mem_weightsAll hd n hn)))
theorem Wt.head {t e : TypeId} {elems spare : List (DataW H)} (ht : P.underlying t = some (.slice e)) (h : Wt P t (.slice elems spare)) : (elems.length + spare.length) * P.bytesOf e ≤ reachBytes :=
  h _ (by simp [DataW.weights, ht])
theorem Wt.part {t : TypeId} {fs : Array Field} {parts : List (DataW H)} (ht : P.underlying t = some (.struct fs)) (h : Wt P t (.agg parts)) {j : Nat} {f : Field} {d : DataW H} (hf : fs[j]? = some f) (hd : parts[j]? = some d) : Wt P f.type d := fun n hn =>
  h n (by
    simp only [DataW.weights, ht]
    exact DataW.weights_mem_each (j := j) (by simp [hf]) hd n hn)

theorem open_intT {base : Nat} {sp : Nat → Bool} {held : Bool} {t : TypeId} {fuel : Nat} {cs : List Value} {x : DataW H × List MemPlace} (ht : P.underlying t = some (.int .i64)) (h : DataW.trod enc P w base sp held fuel t cs = some x) : ∃ n, cs = [.int .i64 n] ∧ I64 n := by
  obtain ⟨n, h1, _, h2⟩ := DataW.trod_int ht h
  exact ⟨n, h1, i64_of_wf h2⟩

theorem spot_none {b off : Nat} {spot : Option Nat} {v : Value} (h : w.cell? ((⟨b, off, spot⟩ : Addr).add 0) = some v) : spot = none := by simpa [Addr.add] using World.cell?_spot h

theorem open_intsT {base : Nat} {sp : Nat → Bool} {held : Bool} {t e : TypeId} {fuel : Nat} {cs : List Value} {x : DataW H × List MemPlace} (ht : P.underlying t = some (.slice e)) (he : P.underlying e = some (.int .i64)) (hc : P.cellsOf e = 1) (hby : P.bytesOf e = 8)
    (h : DataW.trod enc P w base sp held fuel t cs = some x) (hw : Wt P t x.1) :
    ∃ A c xs, cs = [.slice A (List.length xs) c] ∧ xs.length ≤ c ∧ Ints w (fun _ => True) A xs ∧ (∀ x ∈ xs, I64 x) ∧ 8 * xs.length + 4096 ≤ 140737488355328 := by
  rcases open_ints ht he hc h with ⟨hcs, hx⟩ | ⟨a, len, cap, zs, hcs, _, hl, hm, hz, hx, hcell, hwz⟩
  · exact ⟨none, 0, [], hcs, by simp, .inl rfl, by simp, by simp⟩
  · subst hx
    have hzl : len ≤ zs.length := by rw [hz]; split <;> omega
    have hlen : (zs.take len).length = len := by simp; omega
    refine ⟨some a, cap, zs.take len, by rw [hlen]; exact hcs, by omega, ?_, fun x hx => i64_of_wf (hwz x (List.mem_of_mem_take hx)), ?_⟩
    · by_cases h0 : len = 0
      · subst h0; exact .inl (by simp)
      · obtain ⟨b, off, spot⟩ := a
        have hspot := spot_none (hcell 0 (by omega))
        subst hspot
        refine .inr ⟨b, off, rfl, trivial, fun k hk => ?_⟩
        have hk' : k < zs.length := by simp at hk; omega
        have := hcell k hk'
        rw [Addr.add_lit] at this
        rw [this]
        simp [List.getD, hk']
    · have := hw.head ht
      rw [hby] at this
      simp only [lits, List.length_map, List.length_take, List.length_drop, reachBytes] at this
      rw [hlen]
      omega
end

theorem list_of {α : Type} {p : Nat → α → Prop} : ∀ (n : Nat), (∀ i, i < n → ∃ a, p i a) → ∃ l : List α, l.length = n ∧ ∀ i (h : i < l.length), p i l[i]
  | 0, _ => ⟨[], rfl, by simp⟩
  | n + 1, h => by
    obtain ⟨l, hl, hp⟩ := list_of n (fun i hi => h i (by omega))
    obtain ⟨a, ha⟩ := h n (by omega)
    refine ⟨l ++ [a], by simp [hl], fun i hi => ?_⟩
    by_cases e : i < l.length
    · rw [List.getElem_append_left e]; exact hp i e
    · have : i = l.length := by simp at hi; omega
      subst this
      simp; rw [hl]; exact ha

theorem cells_int64 : Try.prog.cellsOf 2 = 1 := by kernel_rfl
end Go.Proofs.Ytnefhokojbkppaa
