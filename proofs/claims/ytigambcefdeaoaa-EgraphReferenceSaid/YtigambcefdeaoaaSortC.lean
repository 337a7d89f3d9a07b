/-
  What fullingref7.Sort does; the sorts of lists of value nodes.
-/
import Derived.Test.YtigambcefdeaoaaNGood
namespace Go.Proofs.Ytigambcefdeaoaa
open Go.RowKit

set_option maxHeartbeats 1000000 in
theorem sort_c (w : World) (F : Nat → Prop) (LA : Option Addr) (lc : Nat) (L : List Nd) (i : Nat) (hL : NodesV w F LA L) (hc : L.length ≤ lc) (hi : i < L.length) (hn : L.length ≤ 100000000000) (hk : ∀ nd ∈ L, nd.kids.length ≤ 100000000000) :
    Calls Try.prog 53 #[.slice LA L.length lc, .int .i64 i] w fun e w' => e = .returned (.int .i64 ((sortsF (L.take (i + 1))).getD i 0)) ∧ Upd Non w w' := by
  have hl : (L.take (i + 1)).length = i + 1 := by simp; omega
  have C1 := Lib.hid (sorts_c w F LA lc (L.take (i + 1)) (hL.take (i + 1)) (by omega) (fun nd h => hk nd (List.mem_of_mem_take h)))
  have hsl : (sortsF (L.take (i + 1))).length = i + 1 := by unfold sortsF; rw [sortsTo_len, hl]
  obtain ⟨S, HS⟩ := nm (sortsF (L.take (i + 1)))
  rw [HS.out] at C1 hsl ⊢
  rw [hl] at C1
  have d1 : decide ((i : Int) < 0) = false := by simp
  have d2 : decide ((L.length : Int) ≤ (i : Int)) = false := by simp; omega
  have d3 : decide (L.length ≤ i) = false := by simp; omega
  obtain ⟨x, Hx⟩ := nm (S.getD i 0)
  rw [Hx.out]
  clear hL hk hl
  go_enter Try.func53, Try.ntmps53
  go_wp2_with fail
  refine C1.out.mono ?_
  rintro e w1 ⟨A, c, rfl, ho, hA, hu⟩
  obtain ⟨b, o, rfl, _, _, hc1⟩ := ho.ints.at_ (k := i) (by omega)
  have HG := Lib.hid (getD_of (d := (0 : Int)) (show i < S.length by omega))
  rw [← HG.out, Hx.out] at hc1
  go_wp2_with fail
  go_ret
  exact ⟨rfl, hu⟩

/-- A value node: its operation, its operands ahead of it, all values. -/
def VN (L : List Nd) (j : Nat) (nd : Nd) : Prop :=
  ((nd.op = 1 ∧ nd.kids.length = 0) ∨ (nd.op = 2 ∧ (nd.imm = 0 ∨ nd.imm = 1) ∧ nd.kids.length = 0) ∨ (4 ≤ nd.op ∧ nd.op ≤ 19 ∧ nd.imm = 0 ∧ nd.kids.length = 2) ∨ ((nd.op = 20 ∨ nd.op = 21) ∧ nd.imm = 0 ∧ nd.kids.length = 1) ∨ (nd.op = 22 ∧ nd.imm = 0 ∧ nd.kids.length = 3)) ∧
  ∀ q ∈ nd.kids, 0 ≤ q ∧ q < j ∧ (L.getD q.toNat ⟨0, 0, []⟩).op ≠ 26
def VL (L : List Nd) : Prop := ∀ j (h : j < L.length), (L[j].op = 26 ∧ L[j].imm = 0 ∧ L[j].kids.length = 0) ∨ VN L j L[j]

theorem VL.take {L : List Nd} (h : VL L) (z : Nat) : VL (L.take z) := by
  intro j hj
  have hj' : j < L.length := by simp at hj; omega
  have hjz : j < z := by simp at hj; omega
  rcases h j hj' with h1 | ⟨h1, h2⟩
  · left; simpa using h1
  · right
    refine ⟨by simpa using h1, fun q hq => ?_⟩
    obtain ⟨a, b, c⟩ := h2 q (by simpa using hq)
    refine ⟨a, b, ?_⟩
    have : q.toNat < z := by omega
    rwa [List.getD, List.getElem?_take_of_lt this]

theorem VL.sorts {L : List Nd} (h : VL L) : ∀ k, k ≤ L.length → ∀ j, j < k → (sortsTo L k).getD j 0 = if (L.getD j ⟨0, 0, []⟩).op = 26 then 2 else 1
  | 0, _, j, hj => by omega
  | k + 1, hk, j, hj => by
    have ih := VL.sorts h k (by omega)
    have hlen := sortsTo_len L k
    rw [sortsTo_succ L k (by omega)]
    by_cases e : j < k
    · rw [List.getD, List.getElem?_append_left (by omega)]
      exact ih j e
    · have e : j = k := by omega
      subst e
      rw [List.getD, List.getElem?_append_right (by omega), hlen, Nat.sub_self, getD_of (show j < L.length by omega)]
      show sortsStep L (sortsTo L j) L[j] = _
      have hjl : j < L.length := by omega
      rcases h j hjl with ⟨h1, h2, h3⟩ | ⟨h1, h2⟩
      · generalize L[j] = nd at *
        obtain ⟨op, imm, kids⟩ := nd
        dsimp only at h1 h2 h3
        subst h1; subst h2
        obtain rfl : kids = [] := List.eq_nil_of_length_eq_zero h3
        simp [sortsStep, kidsOk, nodeSortF, badNode, arityF, validImmF, maxImmF, goodSortF]
      · have hkk : ∀ q ∈ L[j].kids, (sortsTo L j).getD q.toNat 0 = 1 := fun q hq => by
          obtain ⟨a, b, c⟩ := h2 q hq
          rw [ih q.toNat (by omega), if_neg c]
        have hok : kidsOk (sortsTo L j) L[j].kids = true := by
          unfold kidsOk
          rw [List.all_eq_true]
          intro q hq
          rw [kidOk_iff]
          obtain ⟨a, b, c⟩ := h2 q hq
          refine ⟨a, by rw [hlen]; exact b, ?_⟩
          rw [hkk q hq]; omega
        have hks : kidSorts (sortsTo L j) L[j].kids = List.replicate L[j].kids.length 1 := by
          unfold kidSorts
          rw [List.eq_replicate_iff]
          refine ⟨by simp, fun b hb => ?_⟩
          obtain ⟨q, hq, rfl⟩ := List.mem_map.1 hb
          exact hkk q hq
        unfold sortsStep
        rw [hok, if_pos rfl, hks]
        clear hks hok hkk h2
        generalize L[j] = nd at *
        obtain ⟨op, imm, kids⟩ := nd
        dsimp only at h1 ⊢
        rcases h1 with ⟨h1, h3⟩ | ⟨h1, h2, h3⟩ | ⟨h1, h1', h2, h3⟩ | ⟨h1, h2, h3⟩ | ⟨h1, h2, h3⟩
        · subst h1
          simp [nodeSortF, badNode, arityF, validImmF, goodSortF, h3, sortIfF, allOne]
        · subst h1
          rcases h2 with rfl | rfl <;> simp [nodeSortF, badNode, arityF, validImmF, maxImmF, goodSortF, h3, sortIfF, allOne]
        · subst h2
          have e : op = 4 ∨ op = 5 ∨ op = 6 ∨ op = 7 ∨ op = 8 ∨ op = 9 ∨ op = 10 ∨ op = 11 ∨ op = 12 ∨ op = 13 ∨ op = 14 ∨ op = 15 ∨ op = 16 ∨ op = 17 ∨ op = 18 ∨ op = 19 := by omega
          rcases e with rfl | rfl | rfl | rfl | rfl | rfl | rfl | rfl | rfl | rfl | rfl | rfl | rfl | rfl | rfl | rfl <;>
            simp [nodeSortF, badNode, arityF, validImmF, maxImmF, goodSortF, h3, sortIfF, allOne]
        · subst h2
          rcases h1 with rfl | rfl <;> simp [nodeSortF, badNode, arityF, validImmF, maxImmF, goodSortF, h3, sortIfF, allOne]
        · subst h1; subst h2
          simp [nodeSortF, badNode, arityF, validImmF, maxImmF, goodSortF, h3]
end Go.Proofs.Ytigambcefdeaoaa
