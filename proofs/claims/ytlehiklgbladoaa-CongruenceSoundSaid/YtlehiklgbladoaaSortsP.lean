/-
  The sorts of a list of nodes, in plain Lean.
-/
import Derived.Test.YtlehiklgbladoaaRef7
namespace Go.Proofs.Ytlehiklgbladoaa

def kidOk (out : List Int) (q : Int) : Bool := decide (0 ≤ q) && decide (q < out.length) && decide (out.getD q.toNat 0 ≠ 0)
def kidsOk (out : List Int) (kids : List Int) : Bool := kids.all (kidOk out)
def kidSorts (out : List Int) (kids : List Int) : List Int := kids.map fun q => out.getD q.toNat 0
def sortsStep (L : List Nd) (out : List Int) (nd : Nd) : Int := if kidsOk out nd.kids then nodeSortF L nd.op nd.imm nd.kids (kidSorts out nd.kids) else 0
def sortsTo (L : List Nd) : Nat → List Int
  | 0 => []
  | k + 1 => sortsTo L k ++ [sortsStep L (sortsTo L k) (L.getD k ⟨0, 0, []⟩)]
def sortsF (L : List Nd) : List Int := sortsTo L L.length
theorem sortsTo_len (L : List Nd) (k : Nat) : (sortsTo L k).length = k := by
  induction k with
  | zero => rfl
  | succ k ih => simp [sortsTo, ih]
theorem sortsTo_succ (L : List Nd) (k : Nat) (h : k < L.length) : sortsTo L (k + 1) = sortsTo L k ++ [sortsStep L (sortsTo L k) L[k]] := by
  show sortsTo L k ++ _ = _
  simp [List.getD, List.getElem?_eq_getElem h]
theorem kidsOk_snoc (out : List Int) (kids : List Int) (j : Nat) (h : j < kids.length) : kidsOk out (kids.take (j + 1)) = (kidsOk out (kids.take j) && kidOk out kids[j]) := by
  unfold kidsOk; rw [List.take_succ_eq_append_getElem h, List.all_append]; simp
theorem kidSorts_snoc (out : List Int) (kids : List Int) (j : Nat) (h : j < kids.length) : kidSorts out (kids.take (j + 1)) = kidSorts out (kids.take j) ++ [out.getD kids[j].toNat 0] := by
  unfold kidSorts; rw [List.take_succ_eq_append_getElem h, List.map_append]; simp
theorem kidsOk_no {out : List Int} {kids : List Int} {j : Nat} (h : j < kids.length) (hb : kidOk out kids[j] = false) : kidsOk out kids = false := by
  unfold kidsOk; rw [List.all_eq_false]; exact ⟨kids[j], List.getElem_mem h, by simp [hb]⟩
theorem kidOk_iff {out : List Int} {q : Int} : kidOk out q = true ↔ 0 ≤ q ∧ q < out.length ∧ out.getD q.toNat 0 ≠ 0 := by
  simp [kidOk, and_assoc]
theorem kidsOk_mem {out : List Int} {kids : List Int} (h : kidsOk out kids = true) : ∀ q ∈ kids, 0 ≤ q ∧ q < out.length := by
  intro q hq
  unfold kidsOk at h
  rw [List.all_eq_true] at h
  have := kidOk_iff.1 (h q hq)
  exact ⟨this.1, this.2.1⟩
end Go.Proofs.Ytlehiklgbladoaa
