/-
  What fullingref7.nodeSort does.
  What fullingref7.nodeSort does: the remaining operations, and all together.
  What fullingref7.nodeSort does: loops, and all together.
  What fullingref7.nodeSort does: loops, and all together.
-/
import Derived.Test.YtigambcefdeaoaaScal
namespace Go.Proofs.Ytigambcefdeaoaa
open Go.RowKit

set_option maxHeartbeats 1000000 in
set_option maxRecDepth 100000 in
/-- Up to the switch: a malformed node. -/
theorem nodeSort_bad (w : World) (LA KA KS : Option Addr) (ln lc kc kn ks : Nat) (op imm : Int) (kids : List Int) (hb : badNode op imm kids = true) :
    Calls Try.prog 69 #[.slice LA ln lc, .agg #[.int .i64 op, .int .i64 imm, .slice KA kids.length kc], .slice KS kn ks] w fun e w' => e = .returned (.int .i64 0) ∧ Upd Non w w' := by
  have C1 := Lib.hid (arity_c op (w.alloc (.cells #[.int .i64 op, .int .i64 imm, .slice KA kids.length kc] 24)))
  have C2 := Lib.hid (validImm_c op imm (w.alloc (.cells #[.int .i64 op, .int .i64 imm, .slice KA kids.length kc] 24)))
  have HB := Lib.hid hb
  unfold badNode at HB
  obtain ⟨⟨a, ok⟩, Ha⟩ : ∃ a, Hid (arityF op = a) := nm _
  obtain ⟨v, Hv⟩ : ∃ v, Hid (validImmF op imm = v) := nm _
  rw [Ha.out] at C1 HB
  rw [Hv.out] at C2 HB
  dsimp only at C1 HB
  clear hb
  go_enter Try.func69, Try.ntmps69
  go_wp2_with fail
  refine C1.out.mono ?_
  rintro e w1 ⟨rfl, rfl⟩
  cases ok with
  | false =>
    go_wp2_with fail
    go_ret
    exact ⟨rfl, Upd.refl.alloc _⟩
  | true =>
    by_cases h1 : 0 ≤ a ∧ (kids.length : Int) ≠ a
    · obtain ⟨h1, h2⟩ := h1
      have d1 : ((kids.length : Int) != a) = true := by simp; omega
      clear h2
      go_wp2_with fail
      go_ret
      exact ⟨rfl, Upd.refl.alloc _⟩
    · have hv : v = false := by
        have := HB.out
        cases v with
        | false => rfl
        | true => exact absurd this (by simp; omega)
      subst hv
      by_cases h2 : 0 ≤ a
      · have d1 : ((kids.length : Int) != a) = false := by simp; omega
        clear h1
        go_wp2_with fail
        refine C2.out.mono ?_
        rintro e w1 ⟨rfl, rfl⟩
        go_wp2_with fail
        go_ret
        exact ⟨rfl, Upd.refl.alloc _⟩
      · clear h1
        go_wp2_with fail
        refine C2.out.mono ?_
        rintro e w1 ⟨rfl, rfl⟩
        go_wp2_with fail
        go_ret
        exact ⟨rfl, Upd.refl.alloc _⟩

theorem badNode_no {op imm : Int} {kids : List Int} (h : badNode op imm kids = false) : (0 ≤ (arityF op).1 → (kids.length : Int) = (arityF op).1) ∧ validImmF op imm = true := by
  unfold badNode at h
  simp only [Bool.or_eq_false_iff, Bool.not_eq_false', Bool.and_eq_false_iff, decide_eq_false_iff_not] at h
  refine ⟨fun h0 => ?_, h.2⟩
  rcases h.1.2 with h1 | h1
  · exact absurd h0 h1
  · simpa using h1


set_option maxHeartbeats 2000000 in
set_option maxRecDepth 100000 in
theorem nodeSort_3 (w : World) (G : Nat → Prop) (LA KA KS : Option Addr) (ln lc kc ks : Nat) (L : List Nd) (imm : Int) (kids k : List Int) (hb : badNode 3 imm kids = false) (_hK : Ints w G KS k) (hlen : k.length = kids.length) :
    Calls Try.prog 69 #[.slice LA ln lc, .agg #[.int .i64 3, .int .i64 imm, .slice KA kids.length kc], .slice KS k.length ks] w fun e w' => e = .returned (.int .i64 (goodSortF L 3 imm kids k)) ∧ Upd Non w w' := by
  have hv : validImmF 3 imm = true := (badNode_no hb).2
  have hl : kids.length = 0 := by have := (badNode_no hb).1 (by decide); rw [show (arityF 3).1 = 0 from by decide] at this; omega
  rw [hl] at hlen
  have d0 : (((0 : Nat) : Int) != 0) = false := by decide
  rw [hl, hlen]
  have C1 := Lib.hid (arity_c 3 (w.alloc (.cells #[.int .i64 3, .int .i64 imm, .slice KA 0 kc] 24)))
  rw [show arityF 3 = (0, true) from by decide] at C1
  have C2 := Lib.hid (validImm_c 3 imm (w.alloc (.cells #[.int .i64 3, .int .i64 imm, .slice KA 0 kc] 24)))
  rw [hv] at C2
  clear hb hv
  have hk0 : k = [] := List.eq_nil_of_length_eq_zero hlen
  by_cases h : imm.tmod 16 = 0
  · have HG : Hid (goodSortF L 3 imm kids k = 2) := by simp [goodSortF, h, Hid]
    have d : (imm.tmod 16 == 0) = true := by simpa using h
    clear h hlen hl hk0
    go_enter Try.func69, Try.ntmps69
    go_wp2_with fail
    refine C1.out.mono ?_
    rintro e w1 ⟨rfl, rfl⟩
    go_wp2_with fail
    refine C2.out.mono ?_
    rintro e w1 ⟨rfl, rfl⟩
    clear C1 C2
    go_wp2_with fail
    go_ret
    refine ⟨?_, by first | exact Upd.refl.alloc _ | exact (Upd.refl.alloc _).drewN _⟩
    rw [HG.out]
    rfl
  · have HG : Hid (goodSortF L 3 imm kids k = 1) := by simp [goodSortF, h, Hid]
    have d : (imm.tmod 16 == 0) = false := by simpa using h
    clear h hlen hl hk0
    go_enter Try.func69, Try.ntmps69
    go_wp2_with fail
    refine C1.out.mono ?_
    rintro e w1 ⟨rfl, rfl⟩
    go_wp2_with fail
    refine C2.out.mono ?_
    rintro e w1 ⟨rfl, rfl⟩
    clear C1 C2
    go_wp2_with fail
    go_ret
    refine ⟨?_, by first | exact Upd.refl.alloc _ | exact (Upd.refl.alloc _).drewN _⟩
    rw [HG.out]
    rfl


set_option maxHeartbeats 2000000 in
set_option maxRecDepth 100000 in
theorem nodeSort_26 (w : World) (G : Nat → Prop) (LA KA KS : Option Addr) (ln lc kc ks : Nat) (L : List Nd) (imm : Int) (kids k : List Int) (hb : badNode 26 imm kids = false) (_hK : Ints w G KS k) (hlen : k.length = kids.length) :
    Calls Try.prog 69 #[.slice LA ln lc, .agg #[.int .i64 26, .int .i64 imm, .slice KA kids.length kc], .slice KS k.length ks] w fun e w' => e = .returned (.int .i64 (goodSortF L 26 imm kids k)) ∧ Upd Non w w' := by
  have hv : validImmF 26 imm = true := (badNode_no hb).2
  have hl : kids.length = 0 := by have := (badNode_no hb).1 (by decide); rw [show (arityF 26).1 = 0 from by decide] at this; omega
  rw [hl] at hlen
  have d0 : (((0 : Nat) : Int) != 0) = false := by decide
  rw [hl, hlen]
  have C1 := Lib.hid (arity_c 26 (w.alloc (.cells #[.int .i64 26, .int .i64 imm, .slice KA 0 kc] 24)))
  rw [show arityF 26 = (0, true) from by decide] at C1
  have C2 := Lib.hid (validImm_c 26 imm (w.alloc (.cells #[.int .i64 26, .int .i64 imm, .slice KA 0 kc] 24)))
  rw [hv] at C2
  clear hb hv
  have HG : Hid (goodSortF L 26 imm kids k = 2) := by simp [goodSortF, Hid]
  clear hlen hl
  go_enter Try.func69, Try.ntmps69
  go_wp2_with fail
  refine C1.out.mono ?_
  rintro e w1 ⟨rfl, rfl⟩
  go_wp2_with fail
  refine C2.out.mono ?_
  rintro e w1 ⟨rfl, rfl⟩
  clear C1 C2
  go_wp2_with fail
  go_ret
  refine ⟨?_, by first | exact Upd.refl.alloc _ | exact (Upd.refl.alloc _).drewN _⟩
  rw [HG.out]
  rfl


set_option maxHeartbeats 2000000 in
set_option maxRecDepth 100000 in
theorem nodeSort_22 (w : World) (G : Nat → Prop) (LA KA KS : Option Addr) (ln lc kc ks : Nat) (L : List Nd) (imm : Int) (kids k : List Int) (hb : badNode 22 imm kids = false) (hK : Ints w G KS k) (hlen : k.length = kids.length) :
    Calls Try.prog 69 #[.slice LA ln lc, .agg #[.int .i64 22, .int .i64 imm, .slice KA kids.length kc], .slice KS k.length ks] w fun e w' => e = .returned (.int .i64 (goodSortF L 22 imm kids k)) ∧ Upd Non w w' := by
  have hv : validImmF 22 imm = true := (badNode_no hb).2
  have hl : kids.length = 3 := by have := (badNode_no hb).1 (by decide); rw [show (arityF 22).1 = 3 from by decide] at this; omega
  rw [hl] at hlen
  have d0 : (((3 : Nat) : Int) != 3) = false := by decide
  rw [hl, hlen]
  have C1 := Lib.hid (arity_c 22 (w.alloc (.cells #[.int .i64 22, .int .i64 imm, .slice KA 3 kc] 24)))
  rw [show arityF 22 = (3, true) from by decide] at C1
  have C2 := Lib.hid (validImm_c 22 imm (w.alloc (.cells #[.int .i64 22, .int .i64 imm, .slice KA 3 kc] 24)))
  rw [hv] at C2
  clear hb hv
  clear hl
  obtain ⟨x0, x1, x2, rfl⟩ : ∃ x0 x1 x2, k = [x0, x1, x2] := by
    match k, hlen with
    | [x0, x1, x2], _ => exact ⟨x0, x1, x2, rfl⟩
  have hK' := hK.upd (Upd.refl.alloc (.cells #[.int .i64 22, .int .i64 imm, .slice KA 3 kc] 24) (S := Non)) (fun _ _ _ f => f)
  obtain ⟨sb, so, rfl, _, _, c0⟩ := hK'.at_ (k := 0) (by simp)
  obtain ⟨sb', so', e', _, _, c1⟩ := hK'.at_ (k := 1) (by simp)
  obtain ⟨rfl, rfl⟩ : sb = sb' ∧ so = so' := by injection e' with e'; injection e' with p q; exact ⟨p, q⟩
  obtain ⟨sb', so', e', _, _, c2⟩ := hK'.at_ (k := 2) (by simp)
  obtain ⟨rfl, rfl⟩ : sb = sb' ∧ so = so' := by injection e' with e'; injection e' with p q; exact ⟨p, q⟩
  rw [Nat.add_zero] at c0
  simp only [List.getElem_cons_zero, List.getElem_cons_succ] at c0 c1 c2
  clear hK hK' hlen e'
  by_cases h0 : x0 = 1
  rotate_left
  · have HG : Hid (goodSortF L 22 imm kids [x0, x1, x2] = 0) := by simp [goodSortF, Hid, h0]
    have e0 : (x0 != 1) = true := by simpa using h0
    clear h0
    go_enter Try.func69, Try.ntmps69
    go_wp2_with fail
    refine C1.out.mono ?_
    rintro e w1 ⟨rfl, rfl⟩
    go_wp2_with fail
    refine C2.out.mono ?_
    rintro e w1 ⟨rfl, rfl⟩
    clear C1 C2
    go_wp2_with fail
    go_quiet (fail)
    go_wp2_with fail
    go_ret
    refine ⟨?_, by first | exact Upd.refl.alloc _ | exact (Upd.refl.alloc _).drewN _⟩
    rw [HG.out]
    rfl
  by_cases h1 : x1 = x2
  rotate_left
  · have HG : Hid (goodSortF L 22 imm kids [x0, x1, x2] = 0) := by simp [goodSortF, Hid, h0, h1]
    have e0 : (x0 != 1) = false := by simpa using h0
    have e1 : (x1 != x2) = true := by simpa using h1
    clear h0 h1
    go_enter Try.func69, Try.ntmps69
    go_wp2_with fail
    refine C1.out.mono ?_
    rintro e w1 ⟨rfl, rfl⟩
    go_wp2_with fail
    refine C2.out.mono ?_
    rintro e w1 ⟨rfl, rfl⟩
    clear C1 C2
    go_wp2_with fail
    go_quiet (fail)
    go_wp2_with fail
    go_ret
    refine ⟨?_, by first | exact Upd.refl.alloc _ | exact (Upd.refl.alloc _).drewN _⟩
    rw [HG.out]
    rfl
  by_cases h2 : x1 = 3
  rotate_left
  · have HG : Hid (goodSortF L 22 imm kids [x0, x1, x2] = x1) := by have := h2; subst h0; subst h1; simp [goodSortF, Hid, this]
    have e0 : (x0 != 1) = false := by simpa using h0
    have e1 : (x1 != x2) = false := by simpa using h1
    have e2 : (x1 == 3) = false := by simpa using h2
    clear h0 h1 h2
    go_enter Try.func69, Try.ntmps69
    go_wp2_with fail
    refine C1.out.mono ?_
    rintro e w1 ⟨rfl, rfl⟩
    go_wp2_with fail
    refine C2.out.mono ?_
    rintro e w1 ⟨rfl, rfl⟩
    clear C1 C2
    go_wp2_with fail
    go_quiet (fail)
    go_wp2_with fail
    go_ret
    refine ⟨?_, by first | exact Upd.refl.alloc _ | exact (Upd.refl.alloc _).drewN _⟩
    rw [HG.out]
    rfl
  · have HG : Hid (goodSortF L 22 imm kids [x0, x1, x2] = 0) := by have := h2; subst h0; subst h1; simp [goodSortF, Hid, this]
    have e0 : (x0 != 1) = false := by simpa using h0
    have e1 : (x1 != x2) = false := by simpa using h1
    have e2 : (x1 == 3) = true := by simpa using h2
    clear h0 h1 h2
    go_enter Try.func69, Try.ntmps69
    go_wp2_with fail
    refine C1.out.mono ?_
    rintro e w1 ⟨rfl, rfl⟩
    go_wp2_with fail
    refine C2.out.mono ?_
    rintro e w1 ⟨rfl, rfl⟩
    clear C1 C2
    go_wp2_with fail
    go_quiet (fail)
    go_wp2_with fail
    go_ret
    refine ⟨?_, by first | exact Upd.refl.alloc _ | exact (Upd.refl.alloc _).drewN _⟩
    rw [HG.out]
    rfl


set_option maxHeartbeats 2000000 in
set_option maxRecDepth 100000 in
theorem nodeSort_23 (w : World) (G : Nat → Prop) (LA KA KS : Option Addr) (ln lc kc ks : Nat) (L : List Nd) (imm : Int) (kids k : List Int) (hb : badNode 23 imm kids = false) (hK : Ints w G KS k) (hlen : k.length = kids.length) :
    Calls Try.prog 69 #[.slice LA ln lc, .agg #[.int .i64 23, .int .i64 imm, .slice KA kids.length kc], .slice KS k.length ks] w fun e w' => e = .returned (.int .i64 (goodSortF L 23 imm kids k)) ∧ Upd Non w w' := by
  have hv : validImmF 23 imm = true := (badNode_no hb).2
  have hl : kids.length = 2 := by have := (badNode_no hb).1 (by decide); rw [show (arityF 23).1 = 2 from by decide] at this; omega
  rw [hl] at hlen
  have d0 : (((2 : Nat) : Int) != 2) = false := by decide
  rw [hl, hlen]
  have C1 := Lib.hid (arity_c 23 (w.alloc (.cells #[.int .i64 23, .int .i64 imm, .slice KA 2 kc] 24)))
  rw [show arityF 23 = (2, true) from by decide] at C1
  have C2 := Lib.hid (validImm_c 23 imm (w.alloc (.cells #[.int .i64 23, .int .i64 imm, .slice KA 2 kc] 24)))
  rw [hv] at C2
  clear hb hv
  clear hl
  obtain ⟨x0, x1, rfl⟩ : ∃ x0 x1, k = [x0, x1] := by
    match k, hlen with
    | [x0, x1], _ => exact ⟨x0, x1, rfl⟩
  have hK' := hK.upd (Upd.refl.alloc (.cells #[.int .i64 23, .int .i64 imm, .slice KA 2 kc] 24) (S := Non)) (fun _ _ _ f => f)
  obtain ⟨sb, so, rfl, _, _, c0⟩ := hK'.at_ (k := 0) (by simp)
  obtain ⟨sb', so', e', _, _, c1⟩ := hK'.at_ (k := 1) (by simp)
  obtain ⟨rfl, rfl⟩ : sb = sb' ∧ so = so' := by injection e' with e'; injection e' with p q; exact ⟨p, q⟩
  rw [Nat.add_zero] at c0
  simp only [List.getElem_cons_zero, List.getElem_cons_succ] at c0 c1
  clear hK hK' hlen e'
  by_cases h0 : x0 = 2
  rotate_left
  · have HG : Hid (goodSortF L 23 imm kids [x0, x1] = sortIfF false 1) := by simp [goodSortF, Hid, h0]
    have e0 : (x0 == 2) = false := by simpa using h0
    clear h0
    go_enter Try.func69, Try.ntmps69
    go_wp2_with fail
    refine C1.out.mono ?_
    rintro e w1 ⟨rfl, rfl⟩
    go_wp2_with fail
    refine C2.out.mono ?_
    rintro e w1 ⟨rfl, rfl⟩
    clear C1 C2
    go_wp2_with fail
    refine (sortIf_c false 1 _).mono ?_
    rintro e w1 ⟨rfl, rfl⟩
    go_wp2_with fail
    go_ret
    refine ⟨?_, by first | exact Upd.refl.alloc _ | exact (Upd.refl.alloc _).drewN _⟩
    rw [HG.out]
    rfl
  by_cases h1 : x1 = 1
  · have HG : Hid (goodSortF L 23 imm kids [x0, x1] = sortIfF true 1) := by simp [goodSortF, Hid, h0, h1]
    have e0 : (x0 == 2) = true := by simpa using h0
    have e1 : (x1 == 1) = true := by simpa using h1
    clear h0 h1
    go_enter Try.func69, Try.ntmps69
    go_wp2_with fail
    refine C1.out.mono ?_
    rintro e w1 ⟨rfl, rfl⟩
    go_wp2_with fail
    refine C2.out.mono ?_
    rintro e w1 ⟨rfl, rfl⟩
    clear C1 C2
    go_wp2_with fail
    refine (sortIf_c true 1 _).mono ?_
    rintro e w1 ⟨rfl, rfl⟩
    go_wp2_with fail
    go_ret
    refine ⟨?_, by first | exact Upd.refl.alloc _ | exact (Upd.refl.alloc _).drewN _⟩
    rw [HG.out]
    rfl
  · have HG : Hid (goodSortF L 23 imm kids [x0, x1] = sortIfF false 1) := by simp [goodSortF, Hid, h0, h1]
    have e0 : (x0 == 2) = true := by simpa using h0
    have e1 : (x1 == 1) = false := by simpa using h1
    clear h0 h1
    go_enter Try.func69, Try.ntmps69
    go_wp2_with fail
    refine C1.out.mono ?_
    rintro e w1 ⟨rfl, rfl⟩
    go_wp2_with fail
    refine C2.out.mono ?_
    rintro e w1 ⟨rfl, rfl⟩
    clear C1 C2
    go_wp2_with fail
    refine (sortIf_c false 1 _).mono ?_
    rintro e w1 ⟨rfl, rfl⟩
    go_wp2_with fail
    go_ret
    refine ⟨?_, by first | exact Upd.refl.alloc _ | exact (Upd.refl.alloc _).drewN _⟩
    rw [HG.out]
    rfl


set_option maxHeartbeats 2000000 in
set_option maxRecDepth 100000 in
theorem nodeSort_27 (w : World) (G : Nat → Prop) (LA KA KS : Option Addr) (ln lc kc ks : Nat) (L : List Nd) (imm : Int) (kids k : List Int) (hb : badNode 27 imm kids = false) (hK : Ints w G KS k) (hlen : k.length = kids.length) :
    Calls Try.prog 69 #[.slice LA ln lc, .agg #[.int .i64 27, .int .i64 imm, .slice KA kids.length kc], .slice KS k.length ks] w fun e w' => e = .returned (.int .i64 (goodSortF L 27 imm kids k)) ∧ Upd Non w w' := by
  have hv : validImmF 27 imm = true := (badNode_no hb).2
  have hl : kids.length = 2 := by have := (badNode_no hb).1 (by decide); rw [show (arityF 27).1 = 2 from by decide] at this; omega
  rw [hl] at hlen
  have d0 : (((2 : Nat) : Int) != 2) = false := by decide
  rw [hl, hlen]
  have C1 := Lib.hid (arity_c 27 (w.alloc (.cells #[.int .i64 27, .int .i64 imm, .slice KA 2 kc] 24)))
  rw [show arityF 27 = (2, true) from by decide] at C1
  have C2 := Lib.hid (validImm_c 27 imm (w.alloc (.cells #[.int .i64 27, .int .i64 imm, .slice KA 2 kc] 24)))
  rw [hv] at C2
  clear hb hv
  clear hl
  obtain ⟨x0, x1, rfl⟩ : ∃ x0 x1, k = [x0, x1] := by
    match k, hlen with
    | [x0, x1], _ => exact ⟨x0, x1, rfl⟩
  have hK' := hK.upd (Upd.refl.alloc (.cells #[.int .i64 27, .int .i64 imm, .slice KA 2 kc] 24) (S := Non)) (fun _ _ _ f => f)
  obtain ⟨sb, so, rfl, _, _, c0⟩ := hK'.at_ (k := 0) (by simp)
  obtain ⟨sb', so', e', _, _, c1⟩ := hK'.at_ (k := 1) (by simp)
  obtain ⟨rfl, rfl⟩ : sb = sb' ∧ so = so' := by injection e' with e'; injection e' with p q; exact ⟨p, q⟩
  rw [Nat.add_zero] at c0
  simp only [List.getElem_cons_zero, List.getElem_cons_succ] at c0 c1
  clear hK hK' hlen e'
  by_cases h0 : x0 = 2
  rotate_left
  · have HG : Hid (goodSortF L 27 imm kids [x0, x1] = sortIfF false 2) := by simp [goodSortF, Hid, h0]
    have e0 : (x0 == 2) = false := by simpa using h0
    clear h0
    go_enter Try.func69, Try.ntmps69
    go_wp2_with fail
    refine C1.out.mono ?_
    rintro e w1 ⟨rfl, rfl⟩
    go_wp2_with fail
    refine C2.out.mono ?_
    rintro e w1 ⟨rfl, rfl⟩
    clear C1 C2
    go_wp2_with fail
    refine (sortIf_c false 2 _).mono ?_
    rintro e w1 ⟨rfl, rfl⟩
    go_wp2_with fail
    go_ret
    refine ⟨?_, by first | exact Upd.refl.alloc _ | exact (Upd.refl.alloc _).drewN _⟩
    rw [HG.out]
    rfl
  by_cases h1 : x1 = 1
  · have HG : Hid (goodSortF L 27 imm kids [x0, x1] = sortIfF true 2) := by simp [goodSortF, Hid, h0, h1]
    have e0 : (x0 == 2) = true := by simpa using h0
    have e1 : (x1 == 1) = true := by simpa using h1
    clear h0 h1
    go_enter Try.func69, Try.ntmps69
    go_wp2_with fail
    refine C1.out.mono ?_
    rintro e w1 ⟨rfl, rfl⟩
    go_wp2_with fail
    refine C2.out.mono ?_
    rintro e w1 ⟨rfl, rfl⟩
    clear C1 C2
    go_wp2_with fail
    refine (sortIf_c true 2 _).mono ?_
    rintro e w1 ⟨rfl, rfl⟩
    go_wp2_with fail
    go_ret
    refine ⟨?_, by first | exact Upd.refl.alloc _ | exact (Upd.refl.alloc _).drewN _⟩
    rw [HG.out]
    rfl
  · have HG : Hid (goodSortF L 27 imm kids [x0, x1] = sortIfF false 2) := by simp [goodSortF, Hid, h0, h1]
    have e0 : (x0 == 2) = true := by simpa using h0
    have e1 : (x1 == 1) = false := by simpa using h1
    clear h0 h1
    go_enter Try.func69, Try.ntmps69
    go_wp2_with fail
    refine C1.out.mono ?_
    rintro e w1 ⟨rfl, rfl⟩
    go_wp2_with fail
    refine C2.out.mono ?_
    rintro e w1 ⟨rfl, rfl⟩
    clear C1 C2
    go_wp2_with fail
    refine (sortIf_c false 2 _).mono ?_
    rintro e w1 ⟨rfl, rfl⟩
    go_wp2_with fail
    go_ret
    refine ⟨?_, by first | exact Upd.refl.alloc _ | exact (Upd.refl.alloc _).drewN _⟩
    rw [HG.out]
    rfl


set_option maxHeartbeats 2000000 in
set_option maxRecDepth 100000 in
theorem nodeSort_29 (w : World) (G : Nat → Prop) (LA KA KS : Option Addr) (ln lc kc ks : Nat) (L : List Nd) (imm : Int) (kids k : List Int) (hb : badNode 29 imm kids = false) (hK : Ints w G KS k) (hlen : k.length = kids.length) :
    Calls Try.prog 69 #[.slice LA ln lc, .agg #[.int .i64 29, .int .i64 imm, .slice KA kids.length kc], .slice KS k.length ks] w fun e w' => e = .returned (.int .i64 (goodSortF L 29 imm kids k)) ∧ Upd Non w w' := by
  have hv : validImmF 29 imm = true := (badNode_no hb).2
  have hl : kids.length = 2 := by have := (badNode_no hb).1 (by decide); rw [show (arityF 29).1 = 2 from by decide] at this; omega
  rw [hl] at hlen
  have d0 : (((2 : Nat) : Int) != 2) = false := by decide
  rw [hl, hlen]
  have C1 := Lib.hid (arity_c 29 (w.alloc (.cells #[.int .i64 29, .int .i64 imm, .slice KA 2 kc] 24)))
  rw [show arityF 29 = (2, true) from by decide] at C1
  have C2 := Lib.hid (validImm_c 29 imm (w.alloc (.cells #[.int .i64 29, .int .i64 imm, .slice KA 2 kc] 24)))
  rw [hv] at C2
  clear hb hv
  clear hl
  obtain ⟨x0, x1, rfl⟩ : ∃ x0 x1, k = [x0, x1] := by
    match k, hlen with
    | [x0, x1], _ => exact ⟨x0, x1, rfl⟩
  have hK' := hK.upd (Upd.refl.alloc (.cells #[.int .i64 29, .int .i64 imm, .slice KA 2 kc] 24) (S := Non)) (fun _ _ _ f => f)
  obtain ⟨sb, so, rfl, _, _, c0⟩ := hK'.at_ (k := 0) (by simp)
  obtain ⟨sb', so', e', _, _, c1⟩ := hK'.at_ (k := 1) (by simp)
  obtain ⟨rfl, rfl⟩ : sb = sb' ∧ so = so' := by injection e' with e'; injection e' with p q; exact ⟨p, q⟩
  rw [Nat.add_zero] at c0
  simp only [List.getElem_cons_zero, List.getElem_cons_succ] at c0 c1
  clear hK hK' hlen e'
  by_cases h0 : x0 = 2
  rotate_left
  · have HG : Hid (goodSortF L 29 imm kids [x0, x1] = sortIfF false 2) := by simp [goodSortF, Hid, h0]
    have e0 : (x0 == 2) = false := by simpa using h0
    clear h0
    go_enter Try.func69, Try.ntmps69
    go_wp2_with fail
    refine C1.out.mono ?_
    rintro e w1 ⟨rfl, rfl⟩
    go_wp2_with fail
    refine C2.out.mono ?_
    rintro e w1 ⟨rfl, rfl⟩
    clear C1 C2
    go_wp2_with fail
    refine (sortIf_c false 2 _).mono ?_
    rintro e w1 ⟨rfl, rfl⟩
    go_wp2_with fail
    go_ret
    refine ⟨?_, by first | exact Upd.refl.alloc _ | exact (Upd.refl.alloc _).drewN _⟩
    rw [HG.out]
    rfl
  by_cases h1 : x1 = 1
  · have HG : Hid (goodSortF L 29 imm kids [x0, x1] = sortIfF true 2) := by simp [goodSortF, Hid, h0, h1]
    have e0 : (x0 == 2) = true := by simpa using h0
    have e1 : (x1 == 1) = true := by simpa using h1
    clear h0 h1
    go_enter Try.func69, Try.ntmps69
    go_wp2_with fail
    refine C1.out.mono ?_
    rintro e w1 ⟨rfl, rfl⟩
    go_wp2_with fail
    refine C2.out.mono ?_
    rintro e w1 ⟨rfl, rfl⟩
    clear C1 C2
    go_wp2_with fail
    refine (sortIf_c true 2 _).mono ?_
    rintro e w1 ⟨rfl, rfl⟩
    go_wp2_with fail
    go_ret
    refine ⟨?_, by first | exact Upd.refl.alloc _ | exact (Upd.refl.alloc _).drewN _⟩
    rw [HG.out]
    rfl
  · have HG : Hid (goodSortF L 29 imm kids [x0, x1] = sortIfF false 2) := by simp [goodSortF, Hid, h0, h1]
    have e0 : (x0 == 2) = true := by simpa using h0
    have e1 : (x1 == 1) = false := by simpa using h1
    clear h0 h1
    go_enter Try.func69, Try.ntmps69
    go_wp2_with fail
    refine C1.out.mono ?_
    rintro e w1 ⟨rfl, rfl⟩
    go_wp2_with fail
    refine C2.out.mono ?_
    rintro e w1 ⟨rfl, rfl⟩
    clear C1 C2
    go_wp2_with fail
    refine (sortIf_c false 2 _).mono ?_
    rintro e w1 ⟨rfl, rfl⟩
    go_wp2_with fail
    go_ret
    refine ⟨?_, by first | exact Upd.refl.alloc _ | exact (Upd.refl.alloc _).drewN _⟩
    rw [HG.out]
    rfl


set_option maxHeartbeats 2000000 in
set_option maxRecDepth 100000 in
theorem nodeSort_24 (w : World) (G : Nat → Prop) (LA KA KS : Option Addr) (ln lc kc ks : Nat) (L : List Nd) (imm : Int) (kids k : List Int) (hb : badNode 24 imm kids = false) (hK : Ints w G KS k) (hlen : k.length = kids.length) :
    Calls Try.prog 69 #[.slice LA ln lc, .agg #[.int .i64 24, .int .i64 imm, .slice KA kids.length kc], .slice KS k.length ks] w fun e w' => e = .returned (.int .i64 (goodSortF L 24 imm kids k)) ∧ Upd Non w w' := by
  have hv : validImmF 24 imm = true := (badNode_no hb).2
  have hl : kids.length = 1 := by have := (badNode_no hb).1 (by decide); rw [show (arityF 24).1 = 1 from by decide] at this; omega
  rw [hl] at hlen
  have d0 : (((1 : Nat) : Int) != 1) = false := by decide
  rw [hl, hlen]
  have C1 := Lib.hid (arity_c 24 (w.alloc (.cells #[.int .i64 24, .int .i64 imm, .slice KA 1 kc] 24)))
  rw [show arityF 24 = (1, true) from by decide] at C1
  have C2 := Lib.hid (validImm_c 24 imm (w.alloc (.cells #[.int .i64 24, .int .i64 imm, .slice KA 1 kc] 24)))
  rw [hv] at C2
  clear hb hv
  clear hl
  obtain ⟨x0, rfl⟩ : ∃ x0, k = [x0] := by
    match k, hlen with
    | [x0], _ => exact ⟨x0, rfl⟩
  have hK' := hK.upd (Upd.refl.alloc (.cells #[.int .i64 24, .int .i64 imm, .slice KA 1 kc] 24) (S := Non)) (fun _ _ _ f => f)
  obtain ⟨sb, so, rfl, _, _, c0⟩ := hK'.at_ (k := 0) (by simp)
  rw [Nat.add_zero] at c0
  simp only [List.getElem_cons_zero] at c0
  clear hK hK' hlen
  by_cases h0 : x0 = 2
  · have HG : Hid (goodSortF L 24 imm kids [x0] = sortIfF true 1) := by simp [goodSortF, Hid, h0]
    have e0 : (x0 == 2) = true := by simpa using h0
    clear h0
    go_enter Try.func69, Try.ntmps69
    go_wp2_with fail
    refine C1.out.mono ?_
    rintro e w1 ⟨rfl, rfl⟩
    go_wp2_with fail
    refine C2.out.mono ?_
    rintro e w1 ⟨rfl, rfl⟩
    clear C1 C2
    go_wp2_with fail
    refine (sortIf_c true 1 _).mono ?_
    rintro e w1 ⟨rfl, rfl⟩
    go_wp2_with fail
    go_ret
    refine ⟨?_, by first | exact Upd.refl.alloc _ | exact (Upd.refl.alloc _).drewN _⟩
    rw [HG.out]
    rfl
  · have HG : Hid (goodSortF L 24 imm kids [x0] = sortIfF false 1) := by simp [goodSortF, Hid, h0]
    have e0 : (x0 == 2) = false := by simpa using h0
    clear h0
    go_enter Try.func69, Try.ntmps69
    go_wp2_with fail
    refine C1.out.mono ?_
    rintro e w1 ⟨rfl, rfl⟩
    go_wp2_with fail
    refine C2.out.mono ?_
    rintro e w1 ⟨rfl, rfl⟩
    clear C1 C2
    go_wp2_with fail
    refine (sortIf_c false 1 _).mono ?_
    rintro e w1 ⟨rfl, rfl⟩
    go_wp2_with fail
    go_ret
    refine ⟨?_, by first | exact Upd.refl.alloc _ | exact (Upd.refl.alloc _).drewN _⟩
    rw [HG.out]
    rfl


set_option maxHeartbeats 2000000 in
set_option maxRecDepth 100000 in
theorem nodeSort_28 (w : World) (G : Nat → Prop) (LA KA KS : Option Addr) (ln lc kc ks : Nat) (L : List Nd) (imm : Int) (kids k : List Int) (hb : badNode 28 imm kids = false) (hK : Ints w G KS k) (hlen : k.length = kids.length) :
    Calls Try.prog 69 #[.slice LA ln lc, .agg #[.int .i64 28, .int .i64 imm, .slice KA kids.length kc], .slice KS k.length ks] w fun e w' => e = .returned (.int .i64 (goodSortF L 28 imm kids k)) ∧ Upd Non w w' := by
  have hv : validImmF 28 imm = true := (badNode_no hb).2
  have hl : kids.length = 3 := by have := (badNode_no hb).1 (by decide); rw [show (arityF 28).1 = 3 from by decide] at this; omega
  rw [hl] at hlen
  have d0 : (((3 : Nat) : Int) != 3) = false := by decide
  rw [hl, hlen]
  have C1 := Lib.hid (arity_c 28 (w.alloc (.cells #[.int .i64 28, .int .i64 imm, .slice KA 3 kc] 24)))
  rw [show arityF 28 = (3, true) from by decide] at C1
  have C2 := Lib.hid (validImm_c 28 imm (w.alloc (.cells #[.int .i64 28, .int .i64 imm, .slice KA 3 kc] 24)))
  rw [hv] at C2
  clear hb hv
  clear hl
  obtain ⟨x0, x1, x2, rfl⟩ : ∃ x0 x1 x2, k = [x0, x1, x2] := by
    match k, hlen with
    | [x0, x1, x2], _ => exact ⟨x0, x1, x2, rfl⟩
  have hK' := hK.upd (Upd.refl.alloc (.cells #[.int .i64 28, .int .i64 imm, .slice KA 3 kc] 24) (S := Non)) (fun _ _ _ f => f)
  obtain ⟨sb, so, rfl, _, _, c0⟩ := hK'.at_ (k := 0) (by simp)
  obtain ⟨sb', so', e', _, _, c1⟩ := hK'.at_ (k := 1) (by simp)
  obtain ⟨rfl, rfl⟩ : sb = sb' ∧ so = so' := by injection e' with e'; injection e' with p q; exact ⟨p, q⟩
  obtain ⟨sb', so', e', _, _, c2⟩ := hK'.at_ (k := 2) (by simp)
  obtain ⟨rfl, rfl⟩ : sb = sb' ∧ so = so' := by injection e' with e'; injection e' with p q; exact ⟨p, q⟩
  rw [Nat.add_zero] at c0
  simp only [List.getElem_cons_zero, List.getElem_cons_succ] at c0 c1 c2
  clear hK hK' hlen e'
  by_cases h0 : x0 = 2
  rotate_left
  · have HG : Hid (goodSortF L 28 imm kids [x0, x1, x2] = sortIfF false 2) := by simp [goodSortF, Hid, h0]
    have e0 : (x0 == 2) = false := by simpa using h0
    clear h0
    go_enter Try.func69, Try.ntmps69
    go_wp2_with fail
    refine C1.out.mono ?_
    rintro e w1 ⟨rfl, rfl⟩
    go_wp2_with fail
    refine C2.out.mono ?_
    rintro e w1 ⟨rfl, rfl⟩
    clear C1 C2
    go_wp2_with fail
    refine (sortIf_c false 2 _).mono ?_
    rintro e w1 ⟨rfl, rfl⟩
    go_wp2_with fail
    go_ret
    refine ⟨?_, by first | exact Upd.refl.alloc _ | exact (Upd.refl.alloc _).drewN _⟩
    rw [HG.out]
    rfl
  by_cases h1 : x1 = 1
  rotate_left
  · have HG : Hid (goodSortF L 28 imm kids [x0, x1, x2] = sortIfF false 2) := by simp [goodSortF, Hid, h0, h1]
    have e0 : (x0 == 2) = true := by simpa using h0
    have e1 : (x1 == 1) = false := by simpa using h1
    clear h0 h1
    go_enter Try.func69, Try.ntmps69
    go_wp2_with fail
    refine C1.out.mono ?_
    rintro e w1 ⟨rfl, rfl⟩
    go_wp2_with fail
    refine C2.out.mono ?_
    rintro e w1 ⟨rfl, rfl⟩
    clear C1 C2
    go_wp2_with fail
    refine (sortIf_c false 2 _).mono ?_
    rintro e w1 ⟨rfl, rfl⟩
    go_wp2_with fail
    go_ret
    refine ⟨?_, by first | exact Upd.refl.alloc _ | exact (Upd.refl.alloc _).drewN _⟩
    rw [HG.out]
    rfl
  by_cases h2 : x2 = 1
  · have HG : Hid (goodSortF L 28 imm kids [x0, x1, x2] = sortIfF true 2) := by simp [goodSortF, Hid, h0, h1, h2]
    have e0 : (x0 == 2) = true := by simpa using h0
    have e1 : (x1 == 1) = true := by simpa using h1
    have e2 : (x2 == 1) = true := by simpa using h2
    clear h0 h1 h2
    go_enter Try.func69, Try.ntmps69
    go_wp2_with fail
    refine C1.out.mono ?_
    rintro e w1 ⟨rfl, rfl⟩
    go_wp2_with fail
    refine C2.out.mono ?_
    rintro e w1 ⟨rfl, rfl⟩
    clear C1 C2
    go_wp2_with fail
    refine (sortIf_c true 2 _).mono ?_
    rintro e w1 ⟨rfl, rfl⟩
    go_wp2_with fail
    go_ret
    refine ⟨?_, by first | exact Upd.refl.alloc _ | exact (Upd.refl.alloc _).drewN _⟩
    rw [HG.out]
    rfl
  · have HG : Hid (goodSortF L 28 imm kids [x0, x1, x2] = sortIfF false 2) := by simp [goodSortF, Hid, h0, h1, h2]
    have e0 : (x0 == 2) = true := by simpa using h0
    have e1 : (x1 == 1) = true := by simpa using h1
    have e2 : (x2 == 1) = false := by simpa using h2
    clear h0 h1 h2
    go_enter Try.func69, Try.ntmps69
    go_wp2_with fail
    refine C1.out.mono ?_
    rintro e w1 ⟨rfl, rfl⟩
    go_wp2_with fail
    refine C2.out.mono ?_
    rintro e w1 ⟨rfl, rfl⟩
    clear C1 C2
    go_wp2_with fail
    refine (sortIf_c false 2 _).mono ?_
    rintro e w1 ⟨rfl, rfl⟩
    go_wp2_with fail
    go_ret
    refine ⟨?_, by first | exact Upd.refl.alloc _ | exact (Upd.refl.alloc _).drewN _⟩
    rw [HG.out]
    rfl

end Go.Proofs.Ytigambcefdeaoaa

namespace Go.Proofs.Ytigambcefdeaoaa
open Go.RowKit

/-- The end of a slice that reads as a list. -/
theorem Sl.cut {w : World} {F : Nat → Prop} {A : Option Addr} {cs : List Value} (h : Sl w F A cs) (k cap : Nat) (hc : cs.length ≤ cap) : Sl w F (if cap = k then A else A.map (·.add k)) (cs.drop k) := by
  rcases h with h | ⟨b, off, rfl, hF, hc'⟩
  · subst h; exact .inl (by simp)
  · by_cases hk : k < cs.length
    · rw [if_neg (by omega)]
      refine .inr ⟨b, off + k, by simp [Addr.add_lit], hF, fun j hj => ?_⟩
      rw [List.length_drop] at hj
      rw [Nat.add_assoc, hc' (k + j) (by omega), List.getElem_drop]
    · exact .inl (List.drop_eq_nil_of_le (by omega))
theorem Ints.cut {w : World} {F : Nat → Prop} {A : Option Addr} {xs : List Int} (h : Ints w F A xs) (k cap : Nat) (hc : xs.length ≤ cap) : Ints w F (if cap = k then A else A.map (·.add k)) (xs.drop k) := by
  have := Sl.cut h k cap (by simpa using hc)
  rw [← List.map_drop] at this
  exact this
theorem Sl.take_ {w : World} {F : Nat → Prop} {A : Option Addr} {cs : List Value} (h : Sl w F A cs) (k : Nat) : Sl w F A (cs.take k) := by
  rcases h with h | ⟨b, off, rfl, hF, hc'⟩
  · subst h; exact .inl (by simp)
  · refine .inr ⟨b, off, rfl, hF, fun j hj => ?_⟩
    rw [List.length_take] at hj
    rw [hc' j (by omega), List.getElem_take]
theorem Ints.take_ {w : World} {F : Nat → Prop} {A : Option Addr} {xs : List Int} (h : Ints w F A xs) (k : Nat) : Ints w F A (xs.take k) := by
  have := Sl.take_ h k
  rw [← List.map_take] at this
  exact this

theorem Ints.drop_ {w : World} {F : Nat → Prop} {b o : Nat} {xs : List Int} (h : Ints w F (some ⟨b, o, none⟩) xs) (k : Nat) : Ints w F (some ⟨b, o + k, none⟩) (xs.drop k) := by
  rcases h with h | ⟨b', o', e, hF, hc⟩
  · have : xs = [] := by simpa using h
    subst this; exact .inl (by simp)
  · injection e with e; injection e with e1 e2; subst e1; subst e2
    refine .inr ⟨b, o + k, rfl, hF, fun j hj => ?_⟩
    have hj' : k + j < xs.length := by simp at hj; omega
    rw [Nat.add_assoc, hc (k + j) (by simpa using hj')]
    simp
theorem allValues_n (w : World) (F : Nat → Prop) (A : Option Addr) (n c : Nat) (xs : List Int) (hn : xs.length = n) (hx : Ints w F A xs) (hl : xs.length ≤ 1000000000000) :
    Calls Try.prog 75 #[.slice A n c] w fun e w' => e = .returned (.bool (allOne xs)) ∧ w = w' := by subst hn; exact allValues_c w F A c xs hx hl
theorem get0 {k : List Int} {i : Nat} (h : i < k.length) : k[i] = k.getD i 0 := by simp [List.getD, List.getElem?_eq_getElem h]

set_option maxHeartbeats 2000000 in
set_option maxRecDepth 100000 in
theorem nodeSort_30 (w : World) (G : Nat → Prop) (LA KA KS : Option Addr) (ln lc kc ks : Nat) (L : List Nd) (imm : Int) (kids k : List Int) (hb : badNode 30 imm kids = false) (hK : Ints w G KS k) (hks : k.length ≤ ks) (hkl : k.length ≤ 1000000000000) :
    Calls Try.prog 69 #[.slice LA ln lc, .agg #[.int .i64 30, .int .i64 imm, .slice KA kids.length kc], .slice KS k.length ks] w fun e w' => e = .returned (.int .i64 (goodSortF L 30 imm kids k)) ∧ Upd Non w w' := by
  have hv : validImmF 30 imm = true := (badNode_no hb).2
  have C1 := Lib.hid (arity_c 30 (w.alloc (.cells #[.int .i64 30, .int .i64 imm, .slice KA kids.length kc] 24)))
  rw [show arityF 30 = (-1, true) from by decide] at C1
  have C2 := Lib.hid (validImm_c 30 imm (w.alloc (.cells #[.int .i64 30, .int .i64 imm, .slice KA kids.length kc] 24)))
  rw [hv] at C2
  clear hb hv
  have hK' := hK.upd (Upd.refl.alloc (.cells #[.int .i64 30, .int .i64 imm, .slice KA kids.length kc] 24) (S := Non)) (fun _ _ _ f => f)
  by_cases h1 : 1 ≤ k.length ∧ k.length ≤ 7
  · obtain ⟨h1, h2⟩ := h1
    obtain ⟨sb, so, rfl, _, _, c0⟩ := hK'.at_ (k := 0) (by omega)
    rw [Nat.add_zero, get0 (by omega)] at c0
    obtain ⟨x, Hx⟩ : ∃ x, Hid (k.getD 0 0 = x) := nm _
    obtain ⟨al, Hal⟩ : ∃ al, Hid (allOne (k.drop 1) = al) := nm _
    rw [Hx.out] at c0
    have HG : Hid (goodSortF L 30 imm kids k = sortIfF (decide (x = 2 ∧ al = true)) 2) := by
      simp only [Hid, goodSortF]
      rw [Hx.out, Hal.out]
      simp [h1, h2]
    by_cases h3 : x = 2
    · subst h3
      go_enter Try.func69, Try.ntmps69
      go_wp2_with fail
      refine C1.out.mono ?_
      rintro e w1 ⟨rfl, rfl⟩
      go_wp2_with fail
      refine C2.out.mono ?_
      rintro e w1 ⟨rfl, rfl⟩
      clear C1 C2
      go_wp2_with fail
      all_goals
        refine (allValues_n _ G _ _ _ (k.drop 1) (by simp) (by first | (rw [List.drop_eq_nil_of_le (by omega)]; exact Ints.nil) | exact hK'.drop_ 1) (by simp; omega)).mono ?_
        rintro e w1 ⟨rfl, rfl⟩
        rw [Hal.out]
        go_wp2_with fail
        refine (sortIf_c _ _ _).mono ?_
        rintro e w1 ⟨rfl, rfl⟩
        go_wp2_with fail
        go_ret
        refine ⟨?_, Upd.refl.alloc _⟩
        rw [HG.out]
        cases al <;> rfl
    · have d : (x == 2) = false := by simpa using h3
      have HG2 : Hid (goodSortF L 30 imm kids k = 0) := by simp only [Hid]; rw [HG.out]; simp [h3, sortIfF]
      clear h3 HG
      go_enter Try.func69, Try.ntmps69
      go_wp2_with fail
      refine C1.out.mono ?_
      rintro e w1 ⟨rfl, rfl⟩
      go_wp2_with fail
      refine C2.out.mono ?_
      rintro e w1 ⟨rfl, rfl⟩
      clear C1 C2
      go_wp2_with fail
      refine (sortIf_c false 2 _).mono ?_
      rintro e w1 ⟨rfl, rfl⟩
      go_wp2_with fail
      go_ret
      exact ⟨by rw [HG2.out]; rfl, Upd.refl.alloc _⟩
  · have HG : Hid (goodSortF L 30 imm kids k = 0) := by
      simp only [Hid, goodSortF]
      have : ¬ (1 ≤ k.length ∧ k.length ≤ 7 ∧ k.getD 0 0 = 2 ∧ allOne (k.drop 1) = true) := fun h => h1 ⟨h.1, h.2.1⟩
      simp only [decide_eq_false this]
      simp [sortIfF]
    by_cases h2 : 1 ≤ k.length
    all_goals
      go_enter Try.func69, Try.ntmps69
      go_wp2_with fail
      refine C1.out.mono ?_
      rintro e w1 ⟨rfl, rfl⟩
      go_wp2_with fail
      refine C2.out.mono ?_
      rintro e w1 ⟨rfl, rfl⟩
      clear C1 C2
      go_wp2_with fail
      refine (sortIf_c false 2 _).mono ?_
      rintro e w1 ⟨rfl, rfl⟩
      go_wp2_with fail
      go_ret
      exact ⟨by rw [HG.out]; rfl, Upd.refl.alloc _⟩

set_option maxHeartbeats 2000000 in
set_option maxRecDepth 100000 in
/-- The operations that take values alone. -/
theorem nodeSort_val (w : World) (G : Nat → Prop) (LA KA KS : Option Addr) (ln lc kc ks : Nat) (L : List Nd) (op imm : Int) (kids k : List Int) (hb : badNode op imm kids = false) (hK : Ints w G KS k) (hkl : k.length ≤ 1000000000000)
    (n3 : op ≠ 3) (n26 : op ≠ 26) (n22 : op ≠ 22) (n23 : op ≠ 23) (n24 : op ≠ 24) (n25 : op ≠ 25) (n27 : op ≠ 27) (n29 : op ≠ 29) (n28 : op ≠ 28) (n30 : op ≠ 30) (n31 : op ≠ 31) :
    Calls Try.prog 69 #[.slice LA ln lc, .agg #[.int .i64 op, .int .i64 imm, .slice KA kids.length kc], .slice KS k.length ks] w fun e w' => e = .returned (.int .i64 (goodSortF L op imm kids k)) ∧ Upd Non w w' := by
  have HG : Hid (goodSortF L op imm kids k = sortIfF (allOne k) 1) := by
    show _ = _
    unfold goodSortF
    rw [if_neg n3, if_neg n26, if_neg n22, if_neg n23, if_neg n24, if_neg n25, if_neg (by omega), if_neg n28, if_neg n30, if_neg n31]
  have hv : validImmF op imm = true := (badNode_no hb).2
  have ha := (badNode_no hb).1
  have hok : (arityF op).2 = true := by
    unfold badNode at hb
    simp only [Bool.or_eq_false_iff, Bool.not_eq_false'] at hb
    exact hb.1.1
  have ha0 : 0 ≤ (arityF op).1 := by
    unfold arityF
    (repeat' split) <;> simp <;> omega
  have C1 := Lib.hid (arity_c op (w.alloc (.cells #[.int .i64 op, .int .i64 imm, .slice KA kids.length kc] 24)))
  rw [hok] at C1
  have C2 := Lib.hid (validImm_c op imm (w.alloc (.cells #[.int .i64 op, .int .i64 imm, .slice KA kids.length kc] 24)))
  rw [hv] at C2
  have hl := ha ha0
  obtain ⟨a, Ha⟩ : ∃ a, Hid ((arityF op).1 = a) := nm _
  rw [Ha.out] at C1 hl ha0
  have d0 : ((kids.length : Int) != a) = false := by simp [hl]
  have hK' := hK.upd (Upd.refl.alloc (.cells #[.int .i64 op, .int .i64 imm, .slice KA kids.length kc] 24) (S := Non)) (fun _ _ _ f => f)
  have b3 : (op == 3) = false := by simpa using n3
  have b26 : (op == 26) = false := by simpa using n26
  have b22 : (op == 22) = false := by simpa using n22
  have b23 : (op == 23) = false := by simpa using n23
  have b24 : (op == 24) = false := by simpa using n24
  have b25 : (op == 25) = false := by simpa using n25
  have b27 : (op == 27) = false := by simpa using n27
  have b29 : (op == 29) = false := by simpa using n29
  have b28 : (op == 28) = false := by simpa using n28
  have b30 : (op == 30) = false := by simpa using n30
  have b31 : (op == 31) = false := by simpa using n31
  clear hb hv ha hok hl n3 n26 n22 n23 n24 n25 n27 n29 n28 n30 n31
  go_enter Try.func69, Try.ntmps69
  go_wp2_with fail
  refine C1.out.mono ?_
  rintro e w1 ⟨rfl, rfl⟩
  go_wp2_with fail
  refine C2.out.mono ?_
  rintro e w1 ⟨rfl, rfl⟩
  clear C1 C2
  go_wp2_with fail
  refine (allValues_c _ G _ _ k hK' hkl).mono ?_
  rintro e w1 ⟨rfl, rfl⟩
  go_wp2_with fail
  refine (sortIf_c _ _ _).mono ?_
  rintro e w1 ⟨rfl, rfl⟩
  go_wp2_with fail
  go_ret
  exact ⟨by rw [HG.out]; rfl, Upd.refl.alloc _⟩
end Go.Proofs.Ytigambcefdeaoaa

namespace Go.Proofs.Ytigambcefdeaoaa
open Go.RowKit

set_option maxHeartbeats 2000000 in
set_option maxRecDepth 100000 in
theorem nodeSort_25 (w : World) (F G : Nat → Prop) (LA KA KS : Option Addr) (lc kc ks : Nat) (L : List Nd) (imm : Int) (kids k : List Int) (hb : badNode 25 imm kids = false) (hL : NodesV w F LA L) (hk : Ints w F KA kids) (hK : Ints w G KS k)
    (hlen : k.length = kids.length) (hr : 0 ≤ kids.getD 0 0 ∧ kids.getD 0 0 < L.length) (hLk : ∀ nd ∈ L, nd.kids.length ≤ 1000000000000000) :
    Calls Try.prog 69 #[.slice LA L.length lc, .agg #[.int .i64 25, .int .i64 imm, .slice KA kids.length kc], .slice KS k.length ks] w fun e w' => e = .returned (.int .i64 (goodSortF L 25 imm kids k)) ∧ Upd Non w w' := by
  have hv : validImmF 25 imm = true := (badNode_no hb).2
  have hl : kids.length = 1 := by have := (badNode_no hb).1 (by decide); rw [show (arityF 25).1 = 1 from by decide] at this; omega
  have hv2 : 0 ≤ imm ∧ imm ≤ 15 := by
    have := hv
    simp [validImmF, maxImmF] at this
    omega
  rw [hl] at hlen
  obtain ⟨x, rfl⟩ : ∃ x, k = [x] := by
    match k, hlen with
    | [x], _ => exact ⟨x, rfl⟩
  obtain ⟨q, rfl⟩ : ∃ q, kids = [q] := by
    match kids, hl with
    | [q], _ => exact ⟨q, rfl⟩
  simp only [List.getD_cons_zero] at hr
  obtain ⟨p, rfl⟩ := Int.eq_ofNat_of_zero_le hr.1
  have hp : p < L.length := by omega
  have C1 := Lib.hid (arity_c 25 (w.alloc (.cells #[.int .i64 25, .int .i64 imm, .slice KA 1 kc] 24)))
  rw [show arityF 25 = (1, true) from by decide] at C1
  have C2 := Lib.hid (validImm_c 25 imm (w.alloc (.cells #[.int .i64 25, .int .i64 imm, .slice KA 1 kc] 24)))
  rw [hv] at C2
  clear hb hv hl hlen
  have hU : Upd Non w (w.alloc (.cells #[.int .i64 25, .int .i64 imm, .slice KA 1 kc] 24)) := Upd.refl.alloc _
  obtain ⟨sb, so, rfl, _, _, c0⟩ := (hK.upd hU (fun _ _ _ f => f)).at_ (k := 0) (by simp)
  obtain ⟨kb, ko, rfl, _, _, c1⟩ := (hk.upd hU (fun _ _ _ f => f)).at_ (k := 0) (by simp)
  obtain ⟨lb, lo, rfl, _, _, _, _, KP, kp, c2, _, _⟩ := (hL.upd hU (fun _ _ _ f => f)).at_ hp
  rw [Nat.add_zero] at c0 c1
  simp only [List.getElem_cons_zero] at c0 c1
  have hlp := hLk _ (List.getElem_mem hp)
  have HG : Hid (goodSortF L 25 imm [(p : Int)] [x] = if x ≠ 3 ∨ ((L[p].kids.length : Int) / 2 ≤ imm) then 0 else sortIfF (decide (imm = 0)) 1 + 1) := by
    show _ = _
    simp [goodSortF, List.getD, List.getElem?_eq_getElem hp]
  generalize L[p].kids.length = n at *
  clear hK hk hL hU hLk
  show Calls Try.prog 69 #[_, .agg #[.int .i64 25, .int .i64 imm, .slice _ 1 kc], .slice _ 1 ks] w _
  by_cases h1 : x = 3
  · have d1 : (x != 3) = false := by simpa using h1
    by_cases h2 : (n : Int) / 2 ≤ imm
    · have HG2 : Hid (goodSortF L 25 imm [(p : Int)] [x] = 0) := by show _ = _; rw [HG.out, if_pos (.inr h2)]
      have d2 : decide ((n : Int) / 2 ≤ imm) = true := by simpa using h2
      clear h1 HG
      go_enter Try.func69, Try.ntmps69
      go_wp2_with fail
      refine C1.out.mono ?_
      rintro e w1 ⟨rfl, rfl⟩
      go_wp2_with fail
      refine C2.out.mono ?_
      rintro e w1 ⟨rfl, rfl⟩
      clear C1 C2
      go_wp2_with fail
      go_quiet (fail)
      go_wp2_with fail
      go_ret
      exact ⟨by rw [HG2.out]; rfl, (Upd.refl.alloc _).drewN _⟩
    · have HG2 : Hid (goodSortF L 25 imm [(p : Int)] [x] = sortIfF (decide (imm = 0)) 1 + 1) := by show _ = _; rw [HG.out, if_neg (by rintro (h | h) <;> contradiction)]
      have d2 : decide ((n : Int) / 2 ≤ imm) = false := by simpa using h2
      have h3 : imm < (n : Int) / 2 := by omega
      have hs1 : 0 ≤ sortIfF (decide (imm = 0)) 1 ∧ sortIfF (decide (imm = 0)) 1 ≤ 1 := by unfold sortIfF; split <;> omega
      clear h1 HG h2
      go_enter Try.func69, Try.ntmps69
      go_wp2_with fail
      refine C1.out.mono ?_
      rintro e w1 ⟨rfl, rfl⟩
      go_wp2_with fail
      refine C2.out.mono ?_
      rintro e w1 ⟨rfl, rfl⟩
      clear C1 C2
      go_wp2_with fail
      go_quiet (fail)
      go_wp2_with fail
      refine (sortIf_c (decide (imm = 0)) 1 _).mono ?_
      rintro e w1 ⟨rfl, rfl⟩
      go_wp2_with fail
      go_ret
      exact ⟨by rw [HG2.out]; rfl, (Upd.refl.alloc _).drewN _⟩
  · have HG2 : Hid (goodSortF L 25 imm [(p : Int)] [x] = 0) := by show _ = _; rw [HG.out, if_pos (.inl h1)]
    have d1 : (x != 3) = true := by simpa using h1
    clear h1 HG
    go_enter Try.func69, Try.ntmps69
    go_wp2_with fail
    refine C1.out.mono ?_
    rintro e w1 ⟨rfl, rfl⟩
    go_wp2_with fail
    refine C2.out.mono ?_
    rintro e w1 ⟨rfl, rfl⟩
    clear C1 C2
    go_wp2_with fail
    go_quiet (fail)
    go_wp2_with fail
    go_ret
    exact ⟨by rw [HG2.out]; rfl, (Upd.refl.alloc _).drewN _⟩
end Go.Proofs.Ytigambcefdeaoaa

namespace Go.Proofs.Ytigambcefdeaoaa
open Go.RowKit

set_option maxHeartbeats 2000000 in
set_option maxRecDepth 100000 in
theorem nodeSort_31 (w : World) (G : Nat → Prop) (LA KA KS : Option Addr) (ln lc kc ks : Nat) (L : List Nd) (imm : Int) (kids k : List Int) (hb : badNode 31 imm kids = false) (hK : Ints w G KS k) (hks : k.length ≤ ks) (hkl : k.length ≤ 1000000000000) :
    Calls Try.prog 69 #[.slice LA ln lc, .agg #[.int .i64 31, .int .i64 imm, .slice KA kids.length kc], .slice KS k.length ks] w fun e w' => e = .returned (.int .i64 (goodSortF L 31 imm kids k)) ∧ Upd Non w w' := by
  have hv : validImmF 31 imm = true := (badNode_no hb).2
  have C1 := Lib.hid (arity_c 31 (w.alloc (.cells #[.int .i64 31, .int .i64 imm, .slice KA kids.length kc] 24)))
  rw [show arityF 31 = (-1, true) from by decide] at C1
  have C2 := Lib.hid (validImm_c 31 imm (w.alloc (.cells #[.int .i64 31, .int .i64 imm, .slice KA kids.length kc] 24)))
  rw [hv] at C2
  clear hb hv
  have hK' := hK.upd (Upd.refl.alloc (.cells #[.int .i64 31, .int .i64 imm, .slice KA kids.length kc] 24) (S := Non)) (fun _ _ _ f => f)
  by_cases hodd : k.length % 2 = 1
  · obtain ⟨m, hm⟩ : ∃ m, k.length = 2 * m + 1 := ⟨k.length / 2, by omega⟩
    have hm2 : k.length / 2 = m := by omega
    obtain ⟨x, Hx⟩ : ∃ x, Hid (k.getD 0 0 = x) := nm _
    obtain ⟨y, Hy⟩ : ∃ y, Hid (k.getD (m + 1) 0 = y) := nm _
    obtain ⟨al, Hal⟩ : ∃ al, Hid (allOne ((k.drop 1).take m) = al) := nm _
    obtain ⟨bl, Hbl⟩ : ∃ bl, Hid (allOne (k.drop (m + 2)) = bl) := nm _
    have HG : Hid (goodSortF L 31 imm kids k = sortIfF (decide (1 ≤ m ∧ m ≤ 16 ∧ x = 2 ∧ al = true ∧ y = 2 ∧ bl = true)) 3) := by
      simp only [Hid, goodSortF]
      rw [hm2, Hx.out, Hal.out, Hy.out, Hbl.out]
      simp [hodd]
    have HM := Lib.hid hm
    rw [hm] at hks hkl ⊢
    clear hm2 hm hodd
    have e1 : (2 * (m : Int) + 1) / 2 = m := by omega
    have e2 : (2 * (m : Int) + 1) % 2 = 1 := by omega
    by_cases h1 : 1 ≤ m
    · by_cases h2 : m ≤ 16
      · obtain ⟨sb, so, rfl, _, _, c0⟩ := hK'.at_ (k := 0) (by rw [HM.out]; omega)
        obtain ⟨sb', so', e', _, _, c1⟩ := hK'.at_ (k := m + 1) (by rw [HM.out]; omega)
        obtain ⟨rfl, rfl⟩ : sb = sb' ∧ so = so' := by injection e' with e'; injection e' with p q; exact ⟨p, q⟩
        rw [Nat.add_zero, get0, Hx.out] at c0
        rw [get0, Hy.out] at c1
        clear e'
        by_cases h3 : x = 2
        · have d3 : (x == 2) = true := by simpa using h3
          have HH := Lib.hid h3
          clear h3
          go_enter Try.func69, Try.ntmps69
          go_wp2_with fail
          refine C1.out.mono ?_
          rintro e w1 ⟨rfl, rfl⟩
          go_wp2_with fail
          refine C2.out.mono ?_
          rintro e w1 ⟨rfl, rfl⟩
          clear C1 C2
          go_wp2_with fail
          refine (allValues_n _ G _ _ _ ((k.drop 1).take m) (by simp [HM.out]; omega) ((hK'.drop_ 1).take_ m) (by simp [HM.out]; omega)).mono ?_
          rintro e w1 ⟨rfl, rfl⟩
          rw [Hal.out]
          cases al with
          | false =>
            have HG2 : Hid (goodSortF L 31 imm kids k = 0) := by show _ = _; rw [HG.out]; simp [sortIfF]
            clear HG
            go_wp2_with fail
            refine (sortIf_c false 3 _).mono ?_
            rintro e w1 ⟨rfl, rfl⟩
            go_wp2_with fail
            go_ret
            exact ⟨by rw [HG2.out]; rfl, Upd.refl.alloc _⟩
          | true =>
            by_cases h4 : y = 2
            · have d4 : (y == 2) = true := by simpa using h4
              have HG2 : Hid (goodSortF L 31 imm kids k = sortIfF bl 3) := by show _ = _; rw [HG.out, HH.out, h4]; simp [h1, h2]
              clear HG h4
              go_wp2_with fail
              all_goals
                refine (allValues_n _ G _ _ _ (k.drop (m + 2)) (by simp [HM.out]; try omega) (by first | (rw [List.drop_eq_nil_of_le (by rw [HM.out]; omega)]; exact Ints.nil) | exact hK'.drop_ (m + 2)) (by simp [HM.out]; omega)).mono ?_
                rintro e w1 ⟨rfl, rfl⟩
                rw [Hbl.out]
                go_wp2_with fail
                refine (sortIf_c _ _ _).mono ?_
                rintro e w1 ⟨rfl, rfl⟩
                go_wp2_with fail
                go_ret
                refine ⟨?_, Upd.refl.alloc _⟩
                rw [HG2.out]
                cases bl <;> rfl
            · have d4 : (y == 2) = false := by simpa using h4
              have HG2 : Hid (goodSortF L 31 imm kids k = 0) := by show _ = _; rw [HG.out]; simp [sortIfF, h4]
              clear HG h4
              go_wp2_with fail
              refine (sortIf_c false 3 _).mono ?_
              rintro e w1 ⟨rfl, rfl⟩
              go_wp2_with fail
              go_ret
              exact ⟨by rw [HG2.out]; rfl, Upd.refl.alloc _⟩
        · have d3 : (x == 2) = false := by simpa using h3
          have HG2 : Hid (goodSortF L 31 imm kids k = 0) := by show _ = _; rw [HG.out]; simp [sortIfF, h3]
          clear h3 HG
          go_enter Try.func69, Try.ntmps69
          go_wp2_with fail
          refine C1.out.mono ?_
          rintro e w1 ⟨rfl, rfl⟩
          go_wp2_with fail
          refine C2.out.mono ?_
          rintro e w1 ⟨rfl, rfl⟩
          clear C1 C2
          go_wp2_with fail
          refine (sortIf_c false 3 _).mono ?_
          rintro e w1 ⟨rfl, rfl⟩
          go_wp2_with fail
          go_ret
          exact ⟨by rw [HG2.out]; rfl, Upd.refl.alloc _⟩
      · have HG2 : Hid (goodSortF L 31 imm kids k = 0) := by show _ = _; rw [HG.out]; simp [sortIfF, h2]
        clear HG
        go_enter Try.func69, Try.ntmps69
        go_wp2_with fail
        refine C1.out.mono ?_
        rintro e w1 ⟨rfl, rfl⟩
        go_wp2_with fail
        refine C2.out.mono ?_
        rintro e w1 ⟨rfl, rfl⟩
        clear C1 C2
        go_wp2_with fail
        refine (sortIf_c false 3 _).mono ?_
        rintro e w1 ⟨rfl, rfl⟩
        go_wp2_with fail
        go_ret
        exact ⟨by rw [HG2.out]; rfl, Upd.refl.alloc _⟩
    · have HG2 : Hid (goodSortF L 31 imm kids k = 0) := by show _ = _; rw [HG.out]; simp [sortIfF, h1]
      clear HG
      go_enter Try.func69, Try.ntmps69
      go_wp2_with fail
      refine C1.out.mono ?_
      rintro e w1 ⟨rfl, rfl⟩
      go_wp2_with fail
      refine C2.out.mono ?_
      rintro e w1 ⟨rfl, rfl⟩
      clear C1 C2
      go_wp2_with fail
      refine (sortIf_c false 3 _).mono ?_
      rintro e w1 ⟨rfl, rfl⟩
      go_wp2_with fail
      go_ret
      exact ⟨by rw [HG2.out]; rfl, Upd.refl.alloc _⟩
  · have HG2 : Hid (goodSortF L 31 imm kids k = 0) := by
      simp only [Hid, goodSortF]
      simp [sortIfF, hodd]
    have e2 : (k.length : Int) % 2 = 0 := by omega
    go_enter Try.func69, Try.ntmps69
    go_wp2_with fail
    refine C1.out.mono ?_
    rintro e w1 ⟨rfl, rfl⟩
    go_wp2_with fail
    refine C2.out.mono ?_
    rintro e w1 ⟨rfl, rfl⟩
    clear C1 C2
    go_wp2_with fail
    refine (sortIf_c false 3 _).mono ?_
    rintro e w1 ⟨rfl, rfl⟩
    go_wp2_with fail
    go_ret
    exact ⟨by rw [HG2.out]; rfl, Upd.refl.alloc _⟩

/-- All operations. -/
theorem nodeSort_c (w : World) (F G : Nat → Prop) (LA KA KS : Option Addr) (lc kc ks : Nat) (L : List Nd) (op imm : Int) (kids k : List Int) (hL : NodesV w F LA L) (hk : Ints w F KA kids) (hK : Ints w G KS k)
    (hlen : k.length = kids.length) (hr : ∀ x ∈ kids, 0 ≤ x ∧ x < L.length) (hLk : ∀ nd ∈ L, nd.kids.length ≤ 1000000000000000) (hks : k.length ≤ ks) (hkl : k.length ≤ 1000000000000) :
    Calls Try.prog 69 #[.slice LA L.length lc, .agg #[.int .i64 op, .int .i64 imm, .slice KA kids.length kc], .slice KS k.length ks] w fun e w' => e = .returned (.int .i64 (nodeSortF L op imm kids k)) ∧ Upd Non w w' := by
  unfold nodeSortF
  cases hb : badNode op imm kids with
  | true => exact nodeSort_bad w LA KA KS L.length lc kc k.length ks op imm kids hb
  | false =>
    simp only [Bool.false_eq_true, if_false]
    by_cases h3 : op = 3
    · subst h3; exact nodeSort_3 w G LA KA KS L.length lc kc ks L imm kids k hb hK hlen
    by_cases h26 : op = 26
    · subst h26; exact nodeSort_26 w G LA KA KS L.length lc kc ks L imm kids k hb hK hlen
    by_cases h22 : op = 22
    · subst h22; exact nodeSort_22 w G LA KA KS L.length lc kc ks L imm kids k hb hK hlen
    by_cases h23 : op = 23
    · subst h23; exact nodeSort_23 w G LA KA KS L.length lc kc ks L imm kids k hb hK hlen
    by_cases h24 : op = 24
    · subst h24; exact nodeSort_24 w G LA KA KS L.length lc kc ks L imm kids k hb hK hlen
    by_cases h25 : op = 25
    · subst h25
      have hl : kids.length = 1 := by have := (badNode_no hb).1 (by decide); rw [show (arityF 25).1 = 1 from by decide] at this; omega
      have hq : 0 ≤ kids.getD 0 0 ∧ kids.getD 0 0 < L.length := by
        rw [← get0 (by omega : 0 < kids.length)]
        exact hr _ (List.getElem_mem _)
      exact nodeSort_25 w F G LA KA KS lc kc ks L imm kids k hb hL hk hK hlen hq hLk
    by_cases h27 : op = 27
    · subst h27; exact nodeSort_27 w G LA KA KS L.length lc kc ks L imm kids k hb hK hlen
    by_cases h29 : op = 29
    · subst h29; exact nodeSort_29 w G LA KA KS L.length lc kc ks L imm kids k hb hK hlen
    by_cases h28 : op = 28
    · subst h28; exact nodeSort_28 w G LA KA KS L.length lc kc ks L imm kids k hb hK hlen
    by_cases h30 : op = 30
    · subst h30; exact nodeSort_30 w G LA KA KS L.length lc kc ks L imm kids k hb hK hks hkl
    by_cases h31 : op = 31
    · subst h31; exact nodeSort_31 w G LA KA KS L.length lc kc ks L imm kids k hb hK hks hkl
    exact nodeSort_val w G LA KA KS L.length lc kc ks L op imm kids k hb hK hkl h3 h26 h22 h23 h24 h25 h27 h29 h28 h30 h31
end Go.Proofs.Ytigambcefdeaoaa
