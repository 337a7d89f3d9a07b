/-
  What fullingref7.nodeSort does: the remaining operations, and all together.
-/
import Derived.Test.YtlehiklgbladoaaNSort
namespace Go.Proofs.Ytlehiklgbladoaa
open Go.RowKit

/-- The end of a slice that reads as a list. -/
theorem Sl.cut {w : World} {F : Nat → Prop} {A : Option Addr} {cs : List Value} (h : Sl w F A cs) (k cap : Nat) (hc : cs.length ≤ cap) : Sl w F (if cap = k then A else A.map (·.add k)) (cs.drop k) := by
  rcases h with h | ⟨b, off, rfl, hF, hc'⟩
  · subst h; exact .inl (by simp)
  · by_cases hk : k < cs.length
    · rw [if_neg (by omega)]
      refine .inr ⟨b, off + k, by simp [Addr.add_lit], hF, fun j hj => ?_⟩
      rw [List.length_drop] at hj
      rw [Nat.add_assoc, hc' (k + j) (by omega), List.getElem_drop]
    · exact .inl (List.drop_eq_nil_of_le (by omega))
theorem Ints.cut {w : World} {F : Nat → Prop} {A : Option Addr} {xs : List Int} (h : Ints w F A xs) (k cap : Nat) (hc : xs.length ≤ cap) : Ints w F (if cap = k then A else A.map (·.add k)) (xs.drop k) := by
  have := Sl.cut h k cap (by simpa using hc)
  rw [← List.map_drop] at this
  exact this
theorem Sl.take_ {w : World} {F : Nat → Prop} {A : Option Addr} {cs : List Value} (h : Sl w F A cs) (k : Nat) : Sl w F A (cs.take k) := by
  rcases h with h | ⟨b, off, rfl, hF, hc'⟩
  · subst h; exact .inl (by simp)
  · refine .inr ⟨b, off, rfl, hF, fun j hj => ?_⟩
    rw [List.length_take] at hj
    rw [hc' j (by omega), List.getElem_take]
theorem Ints.take_ {w : World} {F : Nat → Prop} {A : Option Addr} {xs : List Int} (h : Ints w F A xs) (k : Nat) : Ints w F A (xs.take k) := by
  have := Sl.take_ h k
  rw [← List.map_take] at this
  exact this

theorem Ints.drop_ {w : World} {F : Nat → Prop} {b o : Nat} {xs : List Int} (h : Ints w F (some ⟨b, o, none⟩) xs) (k : Nat) : Ints w F (some ⟨b, o + k, none⟩) (xs.drop k) := by
  rcases h with h | ⟨b', o', e, hF, hc⟩
  · have : xs = [] := by simpa using h
    subst this; exact .inl (by simp)
  · injection e with e; injection e with e1 e2; subst e1; subst e2
    refine .inr ⟨b, o + k, rfl, hF, fun j hj => ?_⟩
    have hj' : k + j < xs.length := by simp at hj; omega
    rw [Nat.add_assoc, hc (k + j) (by simpa using hj')]
    simp
theorem allValues_n (w : World) (F : Nat → Prop) (A : Option Addr) (n c : Nat) (xs : List Int) (hn : xs.length = n) (hx : Ints w F A xs) (hl : xs.length ≤ 1000000000000) :
    Calls Try.prog 40 #[.slice A n c] w fun e w' => e = .returned (.bool (allOne xs)) ∧ w = w' := by subst hn; exact allValues_c w F A c xs hx hl
theorem get0 {k : List Int} {i : Nat} (h : i < k.length) : k[i] = k.getD i 0 := by simp [List.getD, List.getElem?_eq_getElem h]

set_option maxHeartbeats 2000000 in
set_option maxRecDepth 100000 in
theorem nodeSort_30 (w : World) (G : Nat → Prop) (LA KA KS : Option Addr) (ln lc kc ks : Nat) (L : List Nd) (imm : Int) (kids k : List Int) (hb : badNode 30 imm kids = false) (hK : Ints w G KS k) (hks : k.length ≤ ks) (hkl : k.length ≤ 1000000000000) :
    Calls Try.prog 37 #[.slice LA ln lc, .agg #[.int .i64 30, .int .i64 imm, .slice KA kids.length kc], .slice KS k.length ks] w fun e w' => e = .returned (.int .i64 (goodSortF L 30 imm kids k)) ∧ Upd Non w w' := by
  have hv : validImmF 30 imm = true := (badNode_no hb).2
  have C1 := Lib.hid (arity_c 30 (w.alloc (.cells #[.int .i64 30, .int .i64 imm, .slice KA kids.length kc] 24)))
  rw [show arityF 30 = (-1, true) from by decide] at C1
  have C2 := Lib.hid (validImm_c 30 imm (w.alloc (.cells #[.int .i64 30, .int .i64 imm, .slice KA kids.length kc] 24)))
  rw [hv] at C2
  clear hb hv
  have hK' := hK.upd (Upd.refl.alloc (.cells #[.int .i64 30, .int .i64 imm, .slice KA kids.length kc] 24) (S := Non)) (fun _ _ _ f => f)
  by_cases h1 : 1 ≤ k.length ∧ k.length ≤ 7
  · obtain ⟨h1, h2⟩ := h1
    obtain ⟨sb, so, rfl, _, _, c0⟩ := hK'.at_ (k := 0) (by omega)
    rw [Nat.add_zero, get0 (by omega)] at c0
    obtain ⟨x, Hx⟩ : ∃ x, Hid (k.getD 0 0 = x) := nm _
    obtain ⟨al, Hal⟩ : ∃ al, Hid (allOne (k.drop 1) = al) := nm _
    rw [Hx.out] at c0
    have HG : Hid (goodSortF L 30 imm kids k = sortIfF (decide (x = 2 ∧ al = true)) 2) := by
      simp only [Hid, goodSortF]
      rw [Hx.out, Hal.out]
      simp [h1, h2]
    by_cases h3 : x = 2
    · subst h3
      go_enter Try.func37, Try.ntmps37
      go_wp2_with fail
      refine C1.out.mono ?_
      rintro e w1 ⟨rfl, rfl⟩
      go_wp2_with fail
      refine C2.out.mono ?_
      rintro e w1 ⟨rfl, rfl⟩
      clear C1 C2
      go_wp2_with fail
      all_goals
        refine (allValues_n _ G _ _ _ (k.drop 1) (by simp) (by first | (rw [List.drop_eq_nil_of_le (by omega)]; exact Ints.nil) | exact hK'.drop_ 1) (by simp; omega)).mono ?_
        rintro e w1 ⟨rfl, rfl⟩
        rw [Hal.out]
        go_wp2_with fail
        refine (sortIf_c _ _ _).mono ?_
        rintro e w1 ⟨rfl, rfl⟩
        go_wp2_with fail
        go_ret
        refine ⟨?_, Upd.refl.alloc _⟩
        rw [HG.out]
        cases al <;> rfl
    · have d : (x == 2) = false := by simpa using h3
      have HG2 : Hid (goodSortF L 30 imm kids k = 0) := by simp only [Hid]; rw [HG.out]; simp [h3, sortIfF]
      clear h3 HG
      go_enter Try.func37, Try.ntmps37
      go_wp2_with fail
      refine C1.out.mono ?_
      rintro e w1 ⟨rfl, rfl⟩
      go_wp2_with fail
      refine C2.out.mono ?_
      rintro e w1 ⟨rfl, rfl⟩
      clear C1 C2
      go_wp2_with fail
      refine (sortIf_c false 2 _).mono ?_
      rintro e w1 ⟨rfl, rfl⟩
      go_wp2_with fail
      go_ret
      exact ⟨by rw [HG2.out]; rfl, Upd.refl.alloc _⟩
  · have HG : Hid (goodSortF L 30 imm kids k = 0) := by
      simp only [Hid, goodSortF]
      have : ¬ (1 ≤ k.length ∧ k.length ≤ 7 ∧ k.getD 0 0 = 2 ∧ allOne (k.drop 1) = true) := fun h => h1 ⟨h.1, h.2.1⟩
      simp only [decide_eq_false this]
      simp [sortIfF]
    by_cases h2 : 1 ≤ k.length
    all_goals
      go_enter Try.func37, Try.ntmps37
      go_wp2_with fail
      refine C1.out.mono ?_
      rintro e w1 ⟨rfl, rfl⟩
      go_wp2_with fail
      refine C2.out.mono ?_
      rintro e w1 ⟨rfl, rfl⟩
      clear C1 C2
      go_wp2_with fail
      refine (sortIf_c false 2 _).mono ?_
      rintro e w1 ⟨rfl, rfl⟩
      go_wp2_with fail
      go_ret
      exact ⟨by rw [HG.out]; rfl, Upd.refl.alloc _⟩

set_option maxHeartbeats 2000000 in
set_option maxRecDepth 100000 in
/-- The operations that take values alone. -/
theorem nodeSort_val (w : World) (G : Nat → Prop) (LA KA KS : Option Addr) (ln lc kc ks : Nat) (L : List Nd) (op imm : Int) (kids k : List Int) (hb : badNode op imm kids = false) (hK : Ints w G KS k) (hkl : k.length ≤ 1000000000000)
    (n3 : op ≠ 3) (n26 : op ≠ 26) (n22 : op ≠ 22) (n23 : op ≠ 23) (n24 : op ≠ 24) (n25 : op ≠ 25) (n27 : op ≠ 27) (n29 : op ≠ 29) (n28 : op ≠ 28) (n30 : op ≠ 30) (n31 : op ≠ 31) :
    Calls Try.prog 37 #[.slice LA ln lc, .agg #[.int .i64 op, .int .i64 imm, .slice KA kids.length kc], .slice KS k.length ks] w fun e w' => e = .returned (.int .i64 (goodSortF L op imm kids k)) ∧ Upd Non w w' := by
  have HG : Hid (goodSortF L op imm kids k = sortIfF (allOne k) 1) := by
    show _ = _
    unfold goodSortF
    rw [if_neg n3, if_neg n26, if_neg n22, if_neg n23, if_neg n24, if_neg n25, if_neg (by omega), if_neg n28, if_neg n30, if_neg n31]
  have hv : validImmF op imm = true := (badNode_no hb).2
  have ha := (badNode_no hb).1
  have hok : (arityF op).2 = true := by
    unfold badNode at hb
    simp only [Bool.or_eq_false_iff, Bool.not_eq_false'] at hb
    exact hb.1.1
  have ha0 : 0 ≤ (arityF op).1 := by
    unfold arityF
    (repeat' split) <;> simp <;> omega
  have C1 := Lib.hid (arity_c op (w.alloc (.cells #[.int .i64 op, .int .i64 imm, .slice KA kids.length kc] 24)))
  rw [hok] at C1
  have C2 := Lib.hid (validImm_c op imm (w.alloc (.cells #[.int .i64 op, .int .i64 imm, .slice KA kids.length kc] 24)))
  rw [hv] at C2
  have hl := ha ha0
  obtain ⟨a, Ha⟩ : ∃ a, Hid ((arityF op).1 = a) := nm _
  rw [Ha.out] at C1 hl ha0
  have d0 : ((kids.length : Int) != a) = false := by simp [hl]
  have hK' := hK.upd (Upd.refl.alloc (.cells #[.int .i64 op, .int .i64 imm, .slice KA kids.length kc] 24) (S := Non)) (fun _ _ _ f => f)
  have b3 : (op == 3) = false := by simpa using n3
  have b26 : (op == 26) = false := by simpa using n26
  have b22 : (op == 22) = false := by simpa using n22
  have b23 : (op == 23) = false := by simpa using n23
  have b24 : (op == 24) = false := by simpa using n24
  have b25 : (op == 25) = false := by simpa using n25
  have b27 : (op == 27) = false := by simpa using n27
  have b29 : (op == 29) = false := by simpa using n29
  have b28 : (op == 28) = false := by simpa using n28
  have b30 : (op == 30) = false := by simpa using n30
  have b31 : (op == 31) = false := by simpa using n31
  clear hb hv ha hok hl n3 n26 n22 n23 n24 n25 n27 n29 n28 n30 n31
  go_enter Try.func37, Try.ntmps37
  go_wp2_with fail
  refine C1.out.mono ?_
  rintro e w1 ⟨rfl, rfl⟩
  go_wp2_with fail
  refine C2.out.mono ?_
  rintro e w1 ⟨rfl, rfl⟩
  clear C1 C2
  go_wp2_with fail
  refine (allValues_c _ G _ _ k hK' hkl).mono ?_
  rintro e w1 ⟨rfl, rfl⟩
  go_wp2_with fail
  refine (sortIf_c _ _ _).mono ?_
  rintro e w1 ⟨rfl, rfl⟩
  go_wp2_with fail
  go_ret
  exact ⟨by rw [HG.out]; rfl, Upd.refl.alloc _⟩
end Go.Proofs.Ytlehiklgbladoaa
