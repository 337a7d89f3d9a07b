/-
  What fullingref7.nodeSort does.
-/
import Derived.Test.YtlehiklgbladoaaScal
namespace Go.Proofs.Ytlehiklgbladoaa
open Go.RowKit

set_option maxHeartbeats 1000000 in
set_option maxRecDepth 100000 in
/-- Up to the switch: a malformed node. -/
theorem nodeSort_bad (w : World) (LA KA KS : Option Addr) (ln lc kc kn ks : Nat) (op imm : Int) (kids : List Int) (hb : badNode op imm kids = true) :
    Calls Try.prog 37 #[.slice LA ln lc, .agg #[.int .i64 op, .int .i64 imm, .slice KA kids.length kc], .slice KS kn ks] w fun e w' => e = .returned (.int .i64 0) ∧ Upd Non w w' := by
  have C1 := Lib.hid (arity_c op (w.alloc (.cells #[.int .i64 op, .int .i64 imm, .slice KA kids.length kc] 24)))
  have C2 := Lib.hid (validImm_c op imm (w.alloc (.cells #[.int .i64 op, .int .i64 imm, .slice KA kids.length kc] 24)))
  have HB := Lib.hid hb
  unfold badNode at HB
  obtain ⟨⟨a, ok⟩, Ha⟩ : ∃ a, Hid (arityF op = a) := nm _
  obtain ⟨v, Hv⟩ : ∃ v, Hid (validImmF op imm = v) := nm _
  rw [Ha.out] at C1 HB
  rw [Hv.out] at C2 HB
  dsimp only at C1 HB
  clear hb
  go_enter Try.func37, Try.ntmps37
  go_wp2_with fail
  refine C1.out.mono ?_
  rintro e w1 ⟨rfl, rfl⟩
  cases ok with
  | false =>
    go_wp2_with fail
    go_ret
    exact ⟨rfl, Upd.refl.alloc _⟩
  | true =>
    by_cases h1 : 0 ≤ a ∧ (kids.length : Int) ≠ a
    · obtain ⟨h1, h2⟩ := h1
      have d1 : ((kids.length : Int) != a) = true := by simp; omega
      clear h2
      go_wp2_with fail
      go_ret
      exact ⟨rfl, Upd.refl.alloc _⟩
    · have hv : v = false := by
        have := HB.out
        cases v with
        | false => rfl
        | true => exact absurd this (by simp; omega)
      subst hv
      by_cases h2 : 0 ≤ a
      · have d1 : ((kids.length : Int) != a) = false := by simp; omega
        clear h1
        go_wp2_with fail
        refine C2.out.mono ?_
        rintro e w1 ⟨rfl, rfl⟩
        go_wp2_with fail
        go_ret
        exact ⟨rfl, Upd.refl.alloc _⟩
      · clear h1
        go_wp2_with fail
        refine C2.out.mono ?_
        rintro e w1 ⟨rfl, rfl⟩
        go_wp2_with fail
        go_ret
        exact ⟨rfl, Upd.refl.alloc _⟩

theorem badNode_no {op imm : Int} {kids : List Int} (h : badNode op imm kids = false) : (0 ≤ (arityF op).1 → (kids.length : Int) = (arityF op).1) ∧ validImmF op imm = true := by
  unfold badNode at h
  simp only [Bool.or_eq_false_iff, Bool.not_eq_false', Bool.and_eq_false_iff, decide_eq_false_iff_not] at h
  refine ⟨fun h0 => ?_, h.2⟩
  rcases h.1.2 with h1 | h1
  · exact absurd h0 h1
  · simpa using h1


set_option maxHeartbeats 2000000 in
set_option maxRecDepth 100000 in
theorem nodeSort_3 (w : World) (G : Nat → Prop) (LA KA KS : Option Addr) (ln lc kc ks : Nat) (L : List Nd) (imm : Int) (kids k : List Int) (hb : badNode 3 imm kids = false) (_hK : Ints w G KS k) (hlen : k.length = kids.length) :
    Calls Try.prog 37 #[.slice LA ln lc, .agg #[.int .i64 3, .int .i64 imm, .slice KA kids.length kc], .slice KS k.length ks] w fun e w' => e = .returned (.int .i64 (goodSortF L 3 imm kids k)) ∧ Upd Non w w' := by
  have hv : validImmF 3 imm = true := (badNode_no hb).2
  have hl : kids.length = 0 := by have := (badNode_no hb).1 (by decide); rw [show (arityF 3).1 = 0 from by decide] at this; omega
  rw [hl] at hlen
  have d0 : (((0 : Nat) : Int) != 0) = false := by decide
  rw [hl, hlen]
  have C1 := Lib.hid (arity_c 3 (w.alloc (.cells #[.int .i64 3, .int .i64 imm, .slice KA 0 kc] 24)))
  rw [show arityF 3 = (0, true) from by decide] at C1
  have C2 := Lib.hid (validImm_c 3 imm (w.alloc (.cells #[.int .i64 3, .int .i64 imm, .slice KA 0 kc] 24)))
  rw [hv] at C2
  clear hb hv
  have hk0 : k = [] := List.eq_nil_of_length_eq_zero hlen
  by_cases h : imm.tmod 16 = 0
  · have HG : Hid (goodSortF L 3 imm kids k = 2) := by simp [goodSortF, h, Hid]
    have d : (imm.tmod 16 == 0) = true := by simpa using h
    clear h hlen hl hk0
    go_enter Try.func37, Try.ntmps37
    go_wp2_with fail
    refine C1.out.mono ?_
    rintro e w1 ⟨rfl, rfl⟩
    go_wp2_with fail
    refine C2.out.mono ?_
    rintro e w1 ⟨rfl, rfl⟩
    clear C1 C2
    go_wp2_with fail
    go_ret
    refine ⟨?_, by first | exact Upd.refl.alloc _ | exact (Upd.refl.alloc _).drewN _⟩
    rw [HG.out]
    rfl
  · have HG : Hid (goodSortF L 3 imm kids k = 1) := by simp [goodSortF, h, Hid]
    have d : (imm.tmod 16 == 0) = false := by simpa using h
    clear h hlen hl hk0
    go_enter Try.func37, Try.ntmps37
    go_wp2_with fail
    refine C1.out.mono ?_
    rintro e w1 ⟨rfl, rfl⟩
    go_wp2_with fail
    refine C2.out.mono ?_
    rintro e w1 ⟨rfl, rfl⟩
    clear C1 C2
    go_wp2_with fail
    go_ret
    refine ⟨?_, by first | exact Upd.refl.alloc _ | exact (Upd.refl.alloc _).drewN _⟩
    rw [HG.out]
    rfl


set_option maxHeartbeats 2000000 in
set_option maxRecDepth 100000 in
theorem nodeSort_26 (w : World) (G : Nat → Prop) (LA KA KS : Option Addr) (ln lc kc ks : Nat) (L : List Nd) (imm : Int) (kids k : List Int) (hb : badNode 26 imm kids = false) (_hK : Ints w G KS k) (hlen : k.length = kids.length) :
    Calls Try.prog 37 #[.slice LA ln lc, .agg #[.int .i64 26, .int .i64 imm, .slice KA kids.length kc], .slice KS k.length ks] w fun e w' => e = .returned (.int .i64 (goodSortF L 26 imm kids k)) ∧ Upd Non w w' := by
  have hv : validImmF 26 imm = true := (badNode_no hb).2
  have hl : kids.length = 0 := by have := (badNode_no hb).1 (by decide); rw [show (arityF 26).1 = 0 from by decide] at this; omega
  rw [hl] at hlen
  have d0 : (((0 : Nat) : Int) != 0) = false := by decide
  rw [hl, hlen]
  have C1 := Lib.hid (arity_c 26 (w.alloc (.cells #[.int .i64 26, .int .i64 imm, .slice KA 0 kc] 24)))
  rw [show arityF 26 = (0, true) from by decide] at C1
  have C2 := Lib.hid (validImm_c 26 imm (w.alloc (.cells #[.int .i64 26, .int .i64 imm, .slice KA 0 kc] 24)))
  rw [hv] at C2
  clear hb hv
  have HG : Hid (goodSortF L 26 imm kids k = 2) := by simp [goodSortF, Hid]
  clear hlen hl
  go_enter Try.func37, Try.ntmps37
  go_wp2_with fail
  refine C1.out.mono ?_
  rintro e w1 ⟨rfl, rfl⟩
  go_wp2_with fail
  refine C2.out.mono ?_
  rintro e w1 ⟨rfl, rfl⟩
  clear C1 C2
  go_wp2_with fail
  go_ret
  refine ⟨?_, by first | exact Upd.refl.alloc _ | exact (Upd.refl.alloc _).drewN _⟩
  rw [HG.out]
  rfl


set_option maxHeartbeats 2000000 in
set_option maxRecDepth 100000 in
theorem nodeSort_22 (w : World) (G : Nat → Prop) (LA KA KS : Option Addr) (ln lc kc ks : Nat) (L : List Nd) (imm : Int) (kids k : List Int) (hb : badNode 22 imm kids = false) (hK : Ints w G KS k) (hlen : k.length = kids.length) :
    Calls Try.prog 37 #[.slice LA ln lc, .agg #[.int .i64 22, .int .i64 imm, .slice KA kids.length kc], .slice KS k.length ks] w fun e w' => e = .returned (.int .i64 (goodSortF L 22 imm kids k)) ∧ Upd Non w w' := by
  have hv : validImmF 22 imm = true := (badNode_no hb).2
  have hl : kids.length = 3 := by have := (badNode_no hb).1 (by decide); rw [show (arityF 22).1 = 3 from by decide] at this; omega
  rw [hl] at hlen
  have d0 : (((3 : Nat) : Int) != 3) = false := by decide
  rw [hl, hlen]
  have C1 := Lib.hid (arity_c 22 (w.alloc (.cells #[.int .i64 22, .int .i64 imm, .slice KA 3 kc] 24)))
  rw [show arityF 22 = (3, true) from by decide] at C1
  have C2 := Lib.hid (validImm_c 22 imm (w.alloc (.cells #[.int .i64 22, .int .i64 imm, .slice KA 3 kc] 24)))
  rw [hv] at C2
  clear hb hv
  clear hl
  obtain ⟨x0, x1, x2, rfl⟩ : ∃ x0 x1 x2, k = [x0, x1, x2] := by
    match k, hlen with
    | [x0, x1, x2], _ => exact ⟨x0, x1, x2, rfl⟩
  have hK' := hK.upd (Upd.refl.alloc (.cells #[.int .i64 22, .int .i64 imm, .slice KA 3 kc] 24) (S := Non)) (fun _ _ _ f => f)
  obtain ⟨sb, so, rfl, _, _, c0⟩ := hK'.at_ (k := 0) (by simp)
  obtain ⟨sb', so', e', _, _, c1⟩ := hK'.at_ (k := 1) (by simp)
  obtain ⟨rfl, rfl⟩ : sb = sb' ∧ so = so' := by injection e' with e'; injection e' with p q; exact ⟨p, q⟩
  obtain ⟨sb', so', e', _, _, c2⟩ := hK'.at_ (k := 2) (by simp)
  obtain ⟨rfl, rfl⟩ : sb = sb' ∧ so = so' := by injection e' with e'; injection e' with p q; exact ⟨p, q⟩
  rw [Nat.add_zero] at c0
  simp only [List.getElem_cons_zero, List.getElem_cons_succ] at c0 c1 c2
  clear hK hK' hlen e'
  by_cases h0 : x0 = 1
  rotate_left
  · have HG : Hid (goodSortF L 22 imm kids [x0, x1, x2] = 0) := by simp [goodSortF, Hid, h0]
    have e0 : (x0 != 1) = true := by simpa using h0
    clear h0
    go_enter Try.func37, Try.ntmps37
    go_wp2_with fail
    refine C1.out.mono ?_
    rintro e w1 ⟨rfl, rfl⟩
    go_wp2_with fail
    refine C2.out.mono ?_
    rintro e w1 ⟨rfl, rfl⟩
    clear C1 C2
    go_wp2_with fail
    go_quiet (fail)
    go_wp2_with fail
    go_ret
    refine ⟨?_, by first | exact Upd.refl.alloc _ | exact (Upd.refl.alloc _).drewN _⟩
    rw [HG.out]
    rfl
  by_cases h1 : x1 = x2
  rotate_left
  · have HG : Hid (goodSortF L 22 imm kids [x0, x1, x2] = 0) := by simp [goodSortF, Hid, h0, h1]
    have e0 : (x0 != 1) = false := by simpa using h0
    have e1 : (x1 != x2) = true := by simpa using h1
    clear h0 h1
    go_enter Try.func37, Try.ntmps37
    go_wp2_with fail
    refine C1.out.mono ?_
    rintro e w1 ⟨rfl, rfl⟩
    go_wp2_with fail
    refine C2.out.mono ?_
    rintro e w1 ⟨rfl, rfl⟩
    clear C1 C2
    go_wp2_with fail
    go_quiet (fail)
    go_wp2_with fail
    go_ret
    refine ⟨?_, by first | exact Upd.refl.alloc _ | exact (Upd.refl.alloc _).drewN _⟩
    rw [HG.out]
    rfl
  by_cases h2 : x1 = 3
  rotate_left
  · have HG : Hid (goodSortF L 22 imm kids [x0, x1, x2] = x1) := by have := h2; subst h0; subst h1; simp [goodSortF, Hid, this]
    have e0 : (x0 != 1) = false := by simpa using h0
    have e1 : (x1 != x2) = false := by simpa using h1
    have e2 : (x1 == 3) = false := by simpa using h2
    clear h0 h1 h2
    go_enter Try.func37, Try.ntmps37
    go_wp2_with fail
    refine C1.out.mono ?_
    rintro e w1 ⟨rfl, rfl⟩
    go_wp2_with fail
    refine C2.out.mono ?_
    rintro e w1 ⟨rfl, rfl⟩
    clear C1 C2
    go_wp2_with fail
    go_quiet (fail)
    go_wp2_with fail
    go_ret
    refine ⟨?_, by first | exact Upd.refl.alloc _ | exact (Upd.refl.alloc _).drewN _⟩
    rw [HG.out]
    rfl
  · have HG : Hid (goodSortF L 22 imm kids [x0, x1, x2] = 0) := by have := h2; subst h0; subst h1; simp [goodSortF, Hid, this]
    have e0 : (x0 != 1) = false := by simpa using h0
    have e1 : (x1 != x2) = false := by simpa using h1
    have e2 : (x1 == 3) = true := by simpa using h2
    clear h0 h1 h2
    go_enter Try.func37, Try.ntmps37
    go_wp2_with fail
    refine C1.out.mono ?_
    rintro e w1 ⟨rfl, rfl⟩
    go_wp2_with fail
    refine C2.out.mono ?_
    rintro e w1 ⟨rfl, rfl⟩
    clear C1 C2
    go_wp2_with fail
    go_quiet (fail)
    go_wp2_with fail
    go_ret
    refine ⟨?_, by first | exact Upd.refl.alloc _ | exact (Upd.refl.alloc _).drewN _⟩
    rw [HG.out]
    rfl


set_option maxHeartbeats 2000000 in
set_option maxRecDepth 100000 in
theorem nodeSort_23 (w : World) (G : Nat → Prop) (LA KA KS : Option Addr) (ln lc kc ks : Nat) (L : List Nd) (imm : Int) (kids k : List Int) (hb : badNode 23 imm kids = false) (hK : Ints w G KS k) (hlen : k.length = kids.length) :
    Calls Try.prog 37 #[.slice LA ln lc, .agg #[.int .i64 23, .int .i64 imm, .slice KA kids.length kc], .slice KS k.length ks] w fun e w' => e = .returned (.int .i64 (goodSortF L 23 imm kids k)) ∧ Upd Non w w' := by
  have hv : validImmF 23 imm = true := (badNode_no hb).2
  have hl : kids.length = 2 := by have := (badNode_no hb).1 (by decide); rw [show (arityF 23).1 = 2 from by decide] at this; omega
  rw [hl] at hlen
  have d0 : (((2 : Nat) : Int) != 2) = false := by decide
  rw [hl, hlen]
  have C1 := Lib.hid (arity_c 23 (w.alloc (.cells #[.int .i64 23, .int .i64 imm, .slice KA 2 kc] 24)))
  rw [show arityF 23 = (2, true) from by decide] at C1
  have C2 := Lib.hid (validImm_c 23 imm (w.alloc (.cells #[.int .i64 23, .int .i64 imm, .slice KA 2 kc] 24)))
  rw [hv] at C2
  clear hb hv
  clear hl
  obtain ⟨x0, x1, rfl⟩ : ∃ x0 x1, k = [x0, x1] := by
    match k, hlen with
    | [x0, x1], _ => exact ⟨x0, x1, rfl⟩
  have hK' := hK.upd (Upd.refl.alloc (.cells #[.int .i64 23, .int .i64 imm, .slice KA 2 kc] 24) (S := Non)) (fun _ _ _ f => f)
  obtain ⟨sb, so, rfl, _, _, c0⟩ := hK'.at_ (k := 0) (by simp)
  obtain ⟨sb', so', e', _, _, c1⟩ := hK'.at_ (k := 1) (by simp)
  obtain ⟨rfl, rfl⟩ : sb = sb' ∧ so = so' := by injection e' with e'; injection e' with p q; exact ⟨p, q⟩
  rw [Nat.add_zero] at c0
  simp only [List.getElem_cons_zero, List.getElem_cons_succ] at c0 c1
  clear hK hK' hlen e'
  by_cases h0 : x0 = 2
  rotate_left
  · have HG : Hid (goodSortF L 23 imm kids [x0, x1] = sortIfF false 1) := by simp [goodSortF, Hid, h0]
    have e0 : (x0 == 2) = false := by simpa using h0
    clear h0
    go_enter Try.func37, Try.ntmps37
    go_wp2_with fail
    refine C1.out.mono ?_
    rintro e w1 ⟨rfl, rfl⟩
    go_wp2_with fail
    refine C2.out.mono ?_
    rintro e w1 ⟨rfl, rfl⟩
    clear C1 C2
    go_wp2_with fail
    refine (sortIf_c false 1 _).mono ?_
    rintro e w1 ⟨rfl, rfl⟩
    go_wp2_with fail
    go_ret
    refine ⟨?_, by first | exact Upd.refl.alloc _ | exact (Upd.refl.alloc _).drewN _⟩
    rw [HG.out]
    rfl
  by_cases h1 : x1 = 1
  · have HG : Hid (goodSortF L 23 imm kids [x0, x1] = sortIfF true 1) := by simp [goodSortF, Hid, h0, h1]
    have e0 : (x0 == 2) = true := by simpa using h0
    have e1 : (x1 == 1) = true := by simpa using h1
    clear h0 h1
    go_enter Try.func37, Try.ntmps37
    go_wp2_with fail
    refine C1.out.mono ?_
    rintro e w1 ⟨rfl, rfl⟩
    go_wp2_with fail
    refine C2.out.mono ?_
    rintro e w1 ⟨rfl, rfl⟩
    clear C1 C2
    go_wp2_with fail
    refine (sortIf_c true 1 _).mono ?_
    rintro e w1 ⟨rfl, rfl⟩
    go_wp2_with fail
    go_ret
    refine ⟨?_, by first | exact Upd.refl.alloc _ | exact (Upd.refl.alloc _).drewN _⟩
    rw [HG.out]
    rfl
  · have HG : Hid (goodSortF L 23 imm kids [x0, x1] = sortIfF false 1) := by simp [goodSortF, Hid, h0, h1]
    have e0 : (x0 == 2) = true := by simpa using h0
    have e1 : (x1 == 1) = false := by simpa using h1
    clear h0 h1
    go_enter Try.func37, Try.ntmps37
    go_wp2_with fail
    refine C1.out.mono ?_
    rintro e w1 ⟨rfl, rfl⟩
    go_wp2_with fail
    refine C2.out.mono ?_
    rintro e w1 ⟨rfl, rfl⟩
    clear C1 C2
    go_wp2_with fail
    refine (sortIf_c false 1 _).mono ?_
    rintro e w1 ⟨rfl, rfl⟩
    go_wp2_with fail
    go_ret
    refine ⟨?_, by first | exact Upd.refl.alloc _ | exact (Upd.refl.alloc _).drewN _⟩
    rw [HG.out]
    rfl


set_option maxHeartbeats 2000000 in
set_option maxRecDepth 100000 in
theorem nodeSort_27 (w : World) (G : Nat → Prop) (LA KA KS : Option Addr) (ln lc kc ks : Nat) (L : List Nd) (imm : Int) (kids k : List Int) (hb : badNode 27 imm kids = false) (hK : Ints w G KS k) (hlen : k.length = kids.length) :
    Calls Try.prog 37 #[.slice LA ln lc, .agg #[.int .i64 27, .int .i64 imm, .slice KA kids.length kc], .slice KS k.length ks] w fun e w' => e = .returned (.int .i64 (goodSortF L 27 imm kids k)) ∧ Upd Non w w' := by
  have hv : validImmF 27 imm = true := (badNode_no hb).2
  have hl : kids.length = 2 := by have := (badNode_no hb).1 (by decide); rw [show (arityF 27).1 = 2 from by decide] at this; omega
  rw [hl] at hlen
  have d0 : (((2 : Nat) : Int) != 2) = false := by decide
  rw [hl, hlen]
  have C1 := Lib.hid (arity_c 27 (w.alloc (.cells #[.int .i64 27, .int .i64 imm, .slice KA 2 kc] 24)))
  rw [show arityF 27 = (2, true) from by decide] at C1
  have C2 := Lib.hid (validImm_c 27 imm (w.alloc (.cells #[.int .i64 27, .int .i64 imm, .slice KA 2 kc] 24)))
  rw [hv] at C2
  clear hb hv
  clear hl
  obtain ⟨x0, x1, rfl⟩ : ∃ x0 x1, k = [x0, x1] := by
    match k, hlen with
    | [x0, x1], _ => exact ⟨x0, x1, rfl⟩
  have hK' := hK.upd (Upd.refl.alloc (.cells #[.int .i64 27, .int .i64 imm, .slice KA 2 kc] 24) (S := Non)) (fun _ _ _ f => f)
  obtain ⟨sb, so, rfl, _, _, c0⟩ := hK'.at_ (k := 0) (by simp)
  obtain ⟨sb', so', e', _, _, c1⟩ := hK'.at_ (k := 1) (by simp)
  obtain ⟨rfl, rfl⟩ : sb = sb' ∧ so = so' := by injection e' with e'; injection e' with p q; exact ⟨p, q⟩
  rw [Nat.add_zero] at c0
  simp only [List.getElem_cons_zero, List.getElem_cons_succ] at c0 c1
  clear hK hK' hlen e'
  by_cases h0 : x0 = 2
  rotate_left
  · have HG : Hid (goodSortF L 27 imm kids [x0, x1] = sortIfF false 2) := by simp [goodSortF, Hid, h0]
    have e0 : (x0 == 2) = false := by simpa using h0
    clear h0
    go_enter Try.func37, Try.ntmps37
    go_wp2_with fail
    refine C1.out.mono ?_
    rintro e w1 ⟨rfl, rfl⟩
    go_wp2_with fail
    refine C2.out.mono ?_
    rintro e w1 ⟨rfl, rfl⟩
    clear C1 C2
    go_wp2_with fail
    refine (sortIf_c false 2 _).mono ?_
    rintro e w1 ⟨rfl, rfl⟩
    go_wp2_with fail
    go_ret
    refine ⟨?_, by first | exact Upd.refl.alloc _ | exact (Upd.refl.alloc _).drewN _⟩
    rw [HG.out]
    rfl
  by_cases h1 : x1 = 1
  · have HG : Hid (goodSortF L 27 imm kids [x0, x1] = sortIfF true 2) := by simp [goodSortF, Hid, h0, h1]
    have e0 : (x0 == 2) = true := by simpa using h0
    have e1 : (x1 == 1) = true := by simpa using h1
    clear h0 h1
    go_enter Try.func37, Try.ntmps37
    go_wp2_with fail
    refine C1.out.mono ?_
    rintro e w1 ⟨rfl, rfl⟩
    go_wp2_with fail
    refine C2.out.mono ?_
    rintro e w1 ⟨rfl, rfl⟩
    clear C1 C2
    go_wp2_with fail
    refine (sortIf_c true 2 _).mono ?_
    rintro e w1 ⟨rfl, rfl⟩
    go_wp2_with fail
    go_ret
    refine ⟨?_, by first | exact Upd.refl.alloc _ | exact (Upd.refl.alloc _).drewN _⟩
    rw [HG.out]
    rfl
  · have HG : Hid (goodSortF L 27 imm kids [x0, x1] = sortIfF false 2) := by simp [goodSortF, Hid, h0, h1]
    have e0 : (x0 == 2) = true := by simpa using h0
    have e1 : (x1 == 1) = false := by simpa using h1
    clear h0 h1
    go_enter Try.func37, Try.ntmps37
    go_wp2_with fail
    refine C1.out.mono ?_
    rintro e w1 ⟨rfl, rfl⟩
    go_wp2_with fail
    refine C2.out.mono ?_
    rintro e w1 ⟨rfl, rfl⟩
    clear C1 C2
    go_wp2_with fail
    refine (sortIf_c false 2 _).mono ?_
    rintro e w1 ⟨rfl, rfl⟩
    go_wp2_with fail
    go_ret
    refine ⟨?_, by first | exact Upd.refl.alloc _ | exact (Upd.refl.alloc _).drewN _⟩
    rw [HG.out]
    rfl


set_option maxHeartbeats 2000000 in
set_option maxRecDepth 100000 in
theorem nodeSort_29 (w : World) (G : Nat → Prop) (LA KA KS : Option Addr) (ln lc kc ks : Nat) (L : List Nd) (imm : Int) (kids k : List Int) (hb : badNode 29 imm kids = false) (hK : Ints w G KS k) (hlen : k.length = kids.length) :
    Calls Try.prog 37 #[.slice LA ln lc, .agg #[.int .i64 29, .int .i64 imm, .slice KA kids.length kc], .slice KS k.length ks] w fun e w' => e = .returned (.int .i64 (goodSortF L 29 imm kids k)) ∧ Upd Non w w' := by
  have hv : validImmF 29 imm = true := (badNode_no hb).2
  have hl : kids.length = 2 := by have := (badNode_no hb).1 (by decide); rw [show (arityF 29).1 = 2 from by decide] at this; omega
  rw [hl] at hlen
  have d0 : (((2 : Nat) : Int) != 2) = false := by decide
  rw [hl, hlen]
  have C1 := Lib.hid (arity_c 29 (w.alloc (.cells #[.int .i64 29, .int .i64 imm, .slice KA 2 kc] 24)))
  rw [show arityF 29 = (2, true) from by decide] at C1
  have C2 := Lib.hid (validImm_c 29 imm (w.alloc (.cells #[.int .i64 29, .int .i64 imm, .slice KA 2 kc] 24)))
  rw [hv] at C2
  clear hb hv
  clear hl
  obtain ⟨x0, x1, rfl⟩ : ∃ x0 x1, k = [x0, x1] := by
    match k, hlen with
    | [x0, x1], _ => exact ⟨x0, x1, rfl⟩
  have hK' := hK.upd (Upd.refl.alloc (.cells #[.int .i64 29, .int .i64 imm, .slice KA 2 kc] 24) (S := Non)) (fun _ _ _ f => f)
  obtain ⟨sb, so, rfl, _, _, c0⟩ := hK'.at_ (k := 0) (by simp)
  obtain ⟨sb', so', e', _, _, c1⟩ := hK'.at_ (k := 1) (by simp)
  obtain ⟨rfl, rfl⟩ : sb = sb' ∧ so = so' := by injection e' with e'; injection e' with p q; exact ⟨p, q⟩
  rw [Nat.add_zero] at c0
  simp only [List.getElem_cons_zero, List.getElem_cons_succ] at c0 c1
  clear hK hK' hlen e'
  by_cases h0 : x0 = 2
  rotate_left
  · have HG : Hid (goodSortF L 29 imm kids [x0, x1] = sortIfF false 2) := by simp [goodSortF, Hid, h0]
    have e0 : (x0 == 2) = false := by simpa using h0
    clear h0
    go_enter Try.func37, Try.ntmps37
    go_wp2_with fail
    refine C1.out.mono ?_
    rintro e w1 ⟨rfl, rfl⟩
    go_wp2_with fail
    refine C2.out.mono ?_
    rintro e w1 ⟨rfl, rfl⟩
    clear C1 C2
    go_wp2_with fail
    refine (sortIf_c false 2 _).mono ?_
    rintro e w1 ⟨rfl, rfl⟩
    go_wp2_with fail
    go_ret
    refine ⟨?_, by first | exact Upd.refl.alloc _ | exact (Upd.refl.alloc _).drewN _⟩
    rw [HG.out]
    rfl
  by_cases h1 : x1 = 1
  · have HG : Hid (goodSortF L 29 imm kids [x0, x1] = sortIfF true 2) := by simp [goodSortF, Hid, h0, h1]
    have e0 : (x0 == 2) = true := by simpa using h0
    have e1 : (x1 == 1) = true := by simpa using h1
    clear h0 h1
    go_enter Try.func37, Try.ntmps37
    go_wp2_with fail
    refine C1.out.mono ?_
    rintro e w1 ⟨rfl, rfl⟩
    go_wp2_with fail
    refine C2.out.mono ?_
    rintro e w1 ⟨rfl, rfl⟩
    clear C1 C2
    go_wp2_with fail
    refine (sortIf_c true 2 _).mono ?_
    rintro e w1 ⟨rfl, rfl⟩
    go_wp2_with fail
    go_ret
    refine ⟨?_, by first | exact Upd.refl.alloc _ | exact (Upd.refl.alloc _).drewN _⟩
    rw [HG.out]
    rfl
  · have HG : Hid (goodSortF L 29 imm kids [x0, x1] = sortIfF false 2) := by simp [goodSortF, Hid, h0, h1]
    have e0 : (x0 == 2) = true := by simpa using h0
    have e1 : (x1 == 1) = false := by simpa using h1
    clear h0 h1
    go_enter Try.func37, Try.ntmps37
    go_wp2_with fail
    refine C1.out.mono ?_
    rintro e w1 ⟨rfl, rfl⟩
    go_wp2_with fail
    refine C2.out.mono ?_
    rintro e w1 ⟨rfl, rfl⟩
    clear C1 C2
    go_wp2_with fail
    refine (sortIf_c false 2 _).mono ?_
    rintro e w1 ⟨rfl, rfl⟩
    go_wp2_with fail
    go_ret
    refine ⟨?_, by first | exact Upd.refl.alloc _ | exact (Upd.refl.alloc _).drewN _⟩
    rw [HG.out]
    rfl


set_option maxHeartbeats 2000000 in
set_option maxRecDepth 100000 in
theorem nodeSort_24 (w : World) (G : Nat → Prop) (LA KA KS : Option Addr) (ln lc kc ks : Nat) (L : List Nd) (imm : Int) (kids k : List Int) (hb : badNode 24 imm kids = false) (hK : Ints w G KS k) (hlen : k.length = kids.length) :
    Calls Try.prog 37 #[.slice LA ln lc, .agg #[.int .i64 24, .int .i64 imm, .slice KA kids.length kc], .slice KS k.length ks] w fun e w' => e = .returned (.int .i64 (goodSortF L 24 imm kids k)) ∧ Upd Non w w' := by
  have hv : validImmF 24 imm = true := (badNode_no hb).2
  have hl : kids.length = 1 := by have := (badNode_no hb).1 (by decide); rw [show (arityF 24).1 = 1 from by decide] at this; omega
  rw [hl] at hlen
  have d0 : (((1 : Nat) : Int) != 1) = false := by decide
  rw [hl, hlen]
  have C1 := Lib.hid (arity_c 24 (w.alloc (.cells #[.int .i64 24, .int .i64 imm, .slice KA 1 kc] 24)))
  rw [show arityF 24 = (1, true) from by decide] at C1
  have C2 := Lib.hid (validImm_c 24 imm (w.alloc (.cells #[.int .i64 24, .int .i64 imm, .slice KA 1 kc] 24)))
  rw [hv] at C2
  clear hb hv
  clear hl
  obtain ⟨x0, rfl⟩ : ∃ x0, k = [x0] := by
    match k, hlen with
    | [x0], _ => exact ⟨x0, rfl⟩
  have hK' := hK.upd (Upd.refl.alloc (.cells #[.int .i64 24, .int .i64 imm, .slice KA 1 kc] 24) (S := Non)) (fun _ _ _ f => f)
  obtain ⟨sb, so, rfl, _, _, c0⟩ := hK'.at_ (k := 0) (by simp)
  rw [Nat.add_zero] at c0
  simp only [List.getElem_cons_zero] at c0
  clear hK hK' hlen
  by_cases h0 : x0 = 2
  · have HG : Hid (goodSortF L 24 imm kids [x0] = sortIfF true 1) := by simp [goodSortF, Hid, h0]
    have e0 : (x0 == 2) = true := by simpa using h0
    clear h0
    go_enter Try.func37, Try.ntmps37
    go_wp2_with fail
    refine C1.out.mono ?_
    rintro e w1 ⟨rfl, rfl⟩
    go_wp2_with fail
    refine C2.out.mono ?_
    rintro e w1 ⟨rfl, rfl⟩
    clear C1 C2
    go_wp2_with fail
    refine (sortIf_c true 1 _).mono ?_
    rintro e w1 ⟨rfl, rfl⟩
    go_wp2_with fail
    go_ret
    refine ⟨?_, by first | exact Upd.refl.alloc _ | exact (Upd.refl.alloc _).drewN _⟩
    rw [HG.out]
    rfl
  · have HG : Hid (goodSortF L 24 imm kids [x0] = sortIfF false 1) := by simp [goodSortF, Hid, h0]
    have e0 : (x0 == 2) = false := by simpa using h0
    clear h0
    go_enter Try.func37, Try.ntmps37
    go_wp2_with fail
    refine C1.out.mono ?_
    rintro e w1 ⟨rfl, rfl⟩
    go_wp2_with fail
    refine C2.out.mono ?_
    rintro e w1 ⟨rfl, rfl⟩
    clear C1 C2
    go_wp2_with fail
    refine (sortIf_c false 1 _).mono ?_
    rintro e w1 ⟨rfl, rfl⟩
    go_wp2_with fail
    go_ret
    refine ⟨?_, by first | exact Upd.refl.alloc _ | exact (Upd.refl.alloc _).drewN _⟩
    rw [HG.out]
    rfl


set_option maxHeartbeats 2000000 in
set_option maxRecDepth 100000 in
theorem nodeSort_28 (w : World) (G : Nat → Prop) (LA KA KS : Option Addr) (ln lc kc ks : Nat) (L : List Nd) (imm : Int) (kids k : List Int) (hb : badNode 28 imm kids = false) (hK : Ints w G KS k) (hlen : k.length = kids.length) :
    Calls Try.prog 37 #[.slice LA ln lc, .agg #[.int .i64 28, .int .i64 imm, .slice KA kids.length kc], .slice KS k.length ks] w fun e w' => e = .returned (.int .i64 (goodSortF L 28 imm kids k)) ∧ Upd Non w w' := by
  have hv : validImmF 28 imm = true := (badNode_no hb).2
  have hl : kids.length = 3 := by have := (badNode_no hb).1 (by decide); rw [show (arityF 28).1 = 3 from by decide] at this; omega
  rw [hl] at hlen
  have d0 : (((3 : Nat) : Int) != 3) = false := by decide
  rw [hl, hlen]
  have C1 := Lib.hid (arity_c 28 (w.alloc (.cells #[.int .i64 28, .int .i64 imm, .slice KA 3 kc] 24)))
  rw [show arityF 28 = (3, true) from by decide] at C1
  have C2 := Lib.hid (validImm_c 28 imm (w.alloc (.cells #[.int .i64 28, .int .i64 imm, .slice KA 3 kc] 24)))
  rw [hv] at C2
  clear hb hv
  clear hl
  obtain ⟨x0, x1, x2, rfl⟩ : ∃ x0 x1 x2, k = [x0, x1, x2] := by
    match k, hlen with
    | [x0, x1, x2], _ => exact ⟨x0, x1, x2, rfl⟩
  have hK' := hK.upd (Upd.refl.alloc (.cells #[.int .i64 28, .int .i64 imm, .slice KA 3 kc] 24) (S := Non)) (fun _ _ _ f => f)
  obtain ⟨sb, so, rfl, _, _, c0⟩ := hK'.at_ (k := 0) (by simp)
  obtain ⟨sb', so', e', _, _, c1⟩ := hK'.at_ (k := 1) (by simp)
  obtain ⟨rfl, rfl⟩ : sb = sb' ∧ so = so' := by injection e' with e'; injection e' with p q; exact ⟨p, q⟩
  obtain ⟨sb', so', e', _, _, c2⟩ := hK'.at_ (k := 2) (by simp)
  obtain ⟨rfl, rfl⟩ : sb = sb' ∧ so = so' := by injection e' with e'; injection e' with p q; exact ⟨p, q⟩
  rw [Nat.add_zero] at c0
  simp only [List.getElem_cons_zero, List.getElem_cons_succ] at c0 c1 c2
  clear hK hK' hlen e'
  by_cases h0 : x0 = 2
  rotate_left
  · have HG : Hid (goodSortF L 28 imm kids [x0, x1, x2] = sortIfF false 2) := by simp [goodSortF, Hid, h0]
    have e0 : (x0 == 2) = false := by simpa using h0
    clear h0
    go_enter Try.func37, Try.ntmps37
    go_wp2_with fail
    refine C1.out.mono ?_
    rintro e w1 ⟨rfl, rfl⟩
    go_wp2_with fail
    refine C2.out.mono ?_
    rintro e w1 ⟨rfl, rfl⟩
    clear C1 C2
    go_wp2_with fail
    refine (sortIf_c false 2 _).mono ?_
    rintro e w1 ⟨rfl, rfl⟩
    go_wp2_with fail
    go_ret
    refine ⟨?_, by first | exact Upd.refl.alloc _ | exact (Upd.refl.alloc _).drewN _⟩
    rw [HG.out]
    rfl
  by_cases h1 : x1 = 1
  rotate_left
  · have HG : Hid (goodSortF L 28 imm kids [x0, x1, x2] = sortIfF false 2) := by simp [goodSortF, Hid, h0, h1]
    have e0 : (x0 == 2) = true := by simpa using h0
    have e1 : (x1 == 1) = false := by simpa using h1
    clear h0 h1
    go_enter Try.func37, Try.ntmps37
    go_wp2_with fail
    refine C1.out.mono ?_
    rintro e w1 ⟨rfl, rfl⟩
    go_wp2_with fail
    refine C2.out.mono ?_
    rintro e w1 ⟨rfl, rfl⟩
    clear C1 C2
    go_wp2_with fail
    refine (sortIf_c false 2 _).mono ?_
    rintro e w1 ⟨rfl, rfl⟩
    go_wp2_with fail
    go_ret
    refine ⟨?_, by first | exact Upd.refl.alloc _ | exact (Upd.refl.alloc _).drewN _⟩
    rw [HG.out]
    rfl
  by_cases h2 : x2 = 1
  · have HG : Hid (goodSortF L 28 imm kids [x0, x1, x2] = sortIfF true 2) := by simp [goodSortF, Hid, h0, h1, h2]
    have e0 : (x0 == 2) = true := by simpa using h0
    have e1 : (x1 == 1) = true := by simpa using h1
    have e2 : (x2 == 1) = true := by simpa using h2
    clear h0 h1 h2
    go_enter Try.func37, Try.ntmps37
    go_wp2_with fail
    refine C1.out.mono ?_
    rintro e w1 ⟨rfl, rfl⟩
    go_wp2_with fail
    refine C2.out.mono ?_
    rintro e w1 ⟨rfl, rfl⟩
    clear C1 C2
    go_wp2_with fail
    refine (sortIf_c true 2 _).mono ?_
    rintro e w1 ⟨rfl, rfl⟩
    go_wp2_with fail
    go_ret
    refine ⟨?_, by first | exact Upd.refl.alloc _ | exact (Upd.refl.alloc _).drewN _⟩
    rw [HG.out]
    rfl
  · have HG : Hid (goodSortF L 28 imm kids [x0, x1, x2] = sortIfF false 2) := by simp [goodSortF, Hid, h0, h1, h2]
    have e0 : (x0 == 2) = true := by simpa using h0
    have e1 : (x1 == 1) = true := by simpa using h1
    have e2 : (x2 == 1) = false := by simpa using h2
    clear h0 h1 h2
    go_enter Try.func37, Try.ntmps37
    go_wp2_with fail
    refine C1.out.mono ?_
    rintro e w1 ⟨rfl, rfl⟩
    go_wp2_with fail
    refine C2.out.mono ?_
    rintro e w1 ⟨rfl, rfl⟩
    clear C1 C2
    go_wp2_with fail
    refine (sortIf_c false 2 _).mono ?_
    rintro e w1 ⟨rfl, rfl⟩
    go_wp2_with fail
    go_ret
    refine ⟨?_, by first | exact Upd.refl.alloc _ | exact (Upd.refl.alloc _).drewN _⟩
    rw [HG.out]
    rfl

end Go.Proofs.Ytlehiklgbladoaa
