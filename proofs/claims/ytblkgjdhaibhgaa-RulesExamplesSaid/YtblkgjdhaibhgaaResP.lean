/-
  The reader's state against the plain parser's. No program in sight.
-/
import Derived.Test.YtblkgjdhaibhgaaClsC
namespace Go.Proofs.Ytblkgjdhaibhgaa
open Go.RowKit

/-- What is known of a list of tokens. -/
structure LOk (L : List Tok) (T : List (Bs × Nat)) (fin : Nat) : Prop where
  lt : T.length < L.length
  good : ∀ i (h : i < T.length), L[i]? = some ⟨T[i].1, T[i].2, false⟩
  bad : ∃ s, L[T.length]? = some ⟨s, fin, true⟩
  ne : ∀ t ∈ T, t.1 ≠ []
  sz : ∀ t ∈ T, t.1.length ≤ 20000
  len : L.length ≤ 100000
section
variable {L : List Tok} {T : List (Bs × Nat)} {fin : Nat}
theorem LOk.tk (h : LOk L T fin) {i : Nat} (hi : i ≤ T.length) (s : Bs) : isT L i s = decide (tkF T i = some s) := by
  unfold isT tkF
  rcases Nat.lt_or_ge i T.length with q | q
  · rw [h.good i q, List.getElem?_eq_getElem q]
    simp
  · obtain ⟨z, hz⟩ := h.bad
    rw [show i = T.length by omega, hz, List.getElem?_eq_none (Nat.le_refl _)]
    simp
theorem LOk.pos (h : LOk L T fin) {i : Nat} (hi : i ≤ T.length) : posT L i = offF T fin i := by
  unfold posT offF
  rcases Nat.lt_or_ge i T.length with q | q
  · rw [h.good i q, List.getElem?_eq_getElem q]
  · obtain ⟨z, hz⟩ := h.bad
    rw [show i = T.length by omega, hz, List.getElem?_eq_none (Nat.le_refl _)]
/-- The word that may be taken here. -/
def wkF (T : List (Bs × Nat)) (i : Nat) : Option Bs := match tkF T i with | some s => if isPn (s.headD 0) then none else some s | none => none
theorem LOk.word (h : LOk L T fin) {x : St} (hi : x.i ≤ T.length) : wordOk L x = (x.why == 0 && (wkF T x.i).isSome) := by
  unfold wordOk wkF tkF
  rcases Nat.lt_or_ge x.i T.length with q | q
  · rw [h.good _ q, List.getElem?_eq_getElem q]
    simp only [Option.map_some, Bool.not_false, Bool.true_and]
    cases isPn (T[x.i].1.headD 0) <;> simp
  · obtain ⟨z, hz⟩ := h.bad
    rw [show x.i = T.length by omega, hz, List.getElem?_eq_none (Nat.le_refl _)]
    simp
theorem LOk.at_ (h : LOk L T fin) {i : Nat} (hi : i < L.length) {s : Bs} (hw : wkF T i = some s) : L[i].s = s ∧ L[i].bad = false ∧ s ≠ [] ∧ s.length ≤ 20000 ∧ i < T.length ∧ tkF T i = some s ∧ isPn (s.headD 0) = false := by
  unfold wkF at hw
  split at hw
  · rename_i z hz
    split at hw
    · cases hw
    · rename_i hp
      injection hw with hw
      subst hw
      have hq : i < T.length := by
        rcases Nat.lt_or_ge i T.length with q | q
        · exact q
        · unfold tkF at hz; rw [List.getElem?_eq_none q] at hz; cases hz
      have e : T[i].1 = z := by unfold tkF at hz; rw [List.getElem?_eq_getElem hq] at hz; simpa using hz
      have g := h.good i hq
      rw [List.getElem?_eq_getElem hi] at g
      injection g with g
      have hm : T[i] ∈ T := List.getElem_mem hq
      refine ⟨by rw [g]; exact e, by rw [g], by rw [← e]; exact h.ne _ hm, by rw [← e]; exact h.sz _ hm, hq, hz, by simpa using hp⟩
  · cases hw
theorem LOk.ne' (h : LOk L T fin) {i : Nat} (hi : i < L.length) (hT : i ≤ T.length) : L[i].bad = false → L[i].s ≠ [] := fun q => by
  rcases Nat.lt_or_ge i T.length with r | r
  · have g := h.good i r
    rw [List.getElem?_eq_getElem hi] at g
    injection g with g
    rw [g]; exact h.ne _ (List.getElem_mem r)
  · obtain ⟨z, hz⟩ := h.bad
    have e : i = T.length := by omega
    subst e
    rw [List.getElem?_eq_getElem hi] at hz
    injection hz with hz
    rw [hz] at q; cases q
end
/-- The state is in order: no more variables than tokens read. -/
def Good (T : List (Bs × Nat)) (x : St) : Prop := x.i ≤ T.length ∧ (x.why = 0 → x.vs.length ≤ x.i ∧ x.ms.length ≤ x.i)
/-- The state behind a step of the parser, if it began without error; else the first error stays. -/
def ResS {α : Type} (x y : St) (r : Except Er (α × PS)) (P : α → Prop) : Prop :=
  (x.why = 0 → match r with
    | .ok (v, ps) => y.why = 0 ∧ psOf y = ps ∧ P v
    | .error e => y.why = e.1 ∧ y.ea = e.2) ∧ (x.why ≠ 0 → y.why = x.why ∧ y.ea = x.ea)
theorem fail_why {x : St} {a b : Int} (h : x.why ≠ 0) : x.fail a b = x := if_neg h
theorem fail_zero {x : St} {a b : Int} (h : x.why = 0) : x.fail a b = { x with why := a, ea := b } := if_pos h
theorem fail_own (x : St) (a b : Int) (p k : Nat) : (x.fail a b).own p k ↔ x.own p k := by unfold St.fail; split <;> rfl
theorem fail_i (x : St) (a b : Int) : (x.fail a b).i = x.i := by unfold St.fail; split <;> rfl
theorem fail_left (x : St) (a b : Int) : (x.fail a b).left = x.left := by unfold St.fail; split <;> rfl
theorem Good.fail {T : List (Bs × Nat)} {x : St} (h : x.i ≤ T.length) {a b : Int} (ha : a ≠ 0) : Good T (x.fail a b) := by
  refine ⟨by rw [fail_i]; exact h, fun q => ?_⟩
  exfalso
  by_cases hx : x.why = 0
  · rw [fail_zero hx] at q; exact ha q
  · rw [fail_why hx] at q; exact hx q
end Go.Proofs.Ytblkgjdhaibhgaa
