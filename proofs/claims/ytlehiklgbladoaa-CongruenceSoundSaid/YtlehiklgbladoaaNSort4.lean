/-
  What fullingref7.nodeSort does: loops, and all together.
-/
import Derived.Test.YtlehiklgbladoaaNSort3
namespace Go.Proofs.Ytlehiklgbladoaa
open Go.RowKit

set_option maxHeartbeats 2000000 in
set_option maxRecDepth 100000 in
theorem nodeSort_31 (w : World) (G : Nat → Prop) (LA KA KS : Option Addr) (ln lc kc ks : Nat) (L : List Nd) (imm : Int) (kids k : List Int) (hb : badNode 31 imm kids = false) (hK : Ints w G KS k) (hks : k.length ≤ ks) (hkl : k.length ≤ 1000000000000) :
    Calls Try.prog 37 #[.slice LA ln lc, .agg #[.int .i64 31, .int .i64 imm, .slice KA kids.length kc], .slice KS k.length ks] w fun e w' => e = .returned (.int .i64 (goodSortF L 31 imm kids k)) ∧ Upd Non w w' := by
  have hv : validImmF 31 imm = true := (badNode_no hb).2
  have C1 := Lib.hid (arity_c 31 (w.alloc (.cells #[.int .i64 31, .int .i64 imm, .slice KA kids.length kc] 24)))
  rw [show arityF 31 = (-1, true) from by decide] at C1
  have C2 := Lib.hid (validImm_c 31 imm (w.alloc (.cells #[.int .i64 31, .int .i64 imm, .slice KA kids.length kc] 24)))
  rw [hv] at C2
  clear hb hv
  have hK' := hK.upd (Upd.refl.alloc (.cells #[.int .i64 31, .int .i64 imm, .slice KA kids.length kc] 24) (S := Non)) (fun _ _ _ f => f)
  by_cases hodd : k.length % 2 = 1
  · obtain ⟨m, hm⟩ : ∃ m, k.length = 2 * m + 1 := ⟨k.length / 2, by omega⟩
    have hm2 : k.length / 2 = m := by omega
    obtain ⟨x, Hx⟩ : ∃ x, Hid (k.getD 0 0 = x) := nm _
    obtain ⟨y, Hy⟩ : ∃ y, Hid (k.getD (m + 1) 0 = y) := nm _
    obtain ⟨al, Hal⟩ : ∃ al, Hid (allOne ((k.drop 1).take m) = al) := nm _
    obtain ⟨bl, Hbl⟩ : ∃ bl, Hid (allOne (k.drop (m + 2)) = bl) := nm _
    have HG : Hid (goodSortF L 31 imm kids k = sortIfF (decide (1 ≤ m ∧ m ≤ 16 ∧ x = 2 ∧ al = true ∧ y = 2 ∧ bl = true)) 3) := by
      simp only [Hid, goodSortF]
      rw [hm2, Hx.out, Hal.out, Hy.out, Hbl.out]
      simp [hodd]
    have HM := Lib.hid hm
    rw [hm] at hks hkl ⊢
    clear hm2 hm hodd
    have e1 : (2 * (m : Int) + 1) / 2 = m := by omega
    have e2 : (2 * (m : Int) + 1) % 2 = 1 := by omega
    by_cases h1 : 1 ≤ m
    · by_cases h2 : m ≤ 16
      · obtain ⟨sb, so, rfl, _, _, c0⟩ := hK'.at_ (k := 0) (by rw [HM.out]; omega)
        obtain ⟨sb', so', e', _, _, c1⟩ := hK'.at_ (k := m + 1) (by rw [HM.out]; omega)
        obtain ⟨rfl, rfl⟩ : sb = sb' ∧ so = so' := by injection e' with e'; injection e' with p q; exact ⟨p, q⟩
        rw [Nat.add_zero, get0, Hx.out] at c0
        rw [get0, Hy.out] at c1
        clear e'
        by_cases h3 : x = 2
        · have d3 : (x == 2) = true := by simpa using h3
          have HH := Lib.hid h3
          clear h3
          go_enter Try.func37, Try.ntmps37
          go_wp2_with fail
          refine C1.out.mono ?_
          rintro e w1 ⟨rfl, rfl⟩
          go_wp2_with fail
          refine C2.out.mono ?_
          rintro e w1 ⟨rfl, rfl⟩
          clear C1 C2
          go_wp2_with fail
          refine (allValues_n _ G _ _ _ ((k.drop 1).take m) (by simp [HM.out]; omega) ((hK'.drop_ 1).take_ m) (by simp [HM.out]; omega)).mono ?_
          rintro e w1 ⟨rfl, rfl⟩
          rw [Hal.out]
          cases al with
          | false =>
            have HG2 : Hid (goodSortF L 31 imm kids k = 0) := by show _ = _; rw [HG.out]; simp [sortIfF]
            clear HG
            go_wp2_with fail
            refine (sortIf_c false 3 _).mono ?_
            rintro e w1 ⟨rfl, rfl⟩
            go_wp2_with fail
            go_ret
            exact ⟨by rw [HG2.out]; rfl, Upd.refl.alloc _⟩
          | true =>
            by_cases h4 : y = 2
            · have d4 : (y == 2) = true := by simpa using h4
              have HG2 : Hid (goodSortF L 31 imm kids k = sortIfF bl 3) := by show _ = _; rw [HG.out, HH.out, h4]; simp [h1, h2]
              clear HG h4
              go_wp2_with fail
              all_goals
                refine (allValues_n _ G _ _ _ (k.drop (m + 2)) (by simp [HM.out]; try omega) (by first | (rw [List.drop_eq_nil_of_le (by rw [HM.out]; omega)]; exact Ints.nil) | exact hK'.drop_ (m + 2)) (by simp [HM.out]; omega)).mono ?_
                rintro e w1 ⟨rfl, rfl⟩
                rw [Hbl.out]
                go_wp2_with fail
                refine (sortIf_c _ _ _).mono ?_
                rintro e w1 ⟨rfl, rfl⟩
                go_wp2_with fail
                go_ret
                refine ⟨?_, Upd.refl.alloc _⟩
                rw [HG2.out]
                cases bl <;> rfl
            · have d4 : (y == 2) = false := by simpa using h4
              have HG2 : Hid (goodSortF L 31 imm kids k = 0) := by show _ = _; rw [HG.out]; simp [sortIfF, h4]
              clear HG h4
              go_wp2_with fail
              refine (sortIf_c false 3 _).mono ?_
              rintro e w1 ⟨rfl, rfl⟩
              go_wp2_with fail
              go_ret
              exact ⟨by rw [HG2.out]; rfl, Upd.refl.alloc _⟩
        · have d3 : (x == 2) = false := by simpa using h3
          have HG2 : Hid (goodSortF L 31 imm kids k = 0) := by show _ = _; rw [HG.out]; simp [sortIfF, h3]
          clear h3 HG
          go_enter Try.func37, Try.ntmps37
          go_wp2_with fail
          refine C1.out.mono ?_
          rintro e w1 ⟨rfl, rfl⟩
          go_wp2_with fail
          refine C2.out.mono ?_
          rintro e w1 ⟨rfl, rfl⟩
          clear C1 C2
          go_wp2_with fail
          refine (sortIf_c false 3 _).mono ?_
          rintro e w1 ⟨rfl, rfl⟩
          go_wp2_with fail
          go_ret
          exact ⟨by rw [HG2.out]; rfl, Upd.refl.alloc _⟩
      · have HG2 : Hid (goodSortF L 31 imm kids k = 0) := by show _ = _; rw [HG.out]; simp [sortIfF, h2]
        clear HG
        go_enter Try.func37, Try.ntmps37
        go_wp2_with fail
        refine C1.out.mono ?_
        rintro e w1 ⟨rfl, rfl⟩
        go_wp2_with fail
        refine C2.out.mono ?_
        rintro e w1 ⟨rfl, rfl⟩
        clear C1 C2
        go_wp2_with fail
        refine (sortIf_c false 3 _).mono ?_
        rintro e w1 ⟨rfl, rfl⟩
        go_wp2_with fail
        go_ret
        exact ⟨by rw [HG2.out]; rfl, Upd.refl.alloc _⟩
    · have HG2 : Hid (goodSortF L 31 imm kids k = 0) := by show _ = _; rw [HG.out]; simp [sortIfF, h1]
      clear HG
      go_enter Try.func37, Try.ntmps37
      go_wp2_with fail
      refine C1.out.mono ?_
      rintro e w1 ⟨rfl, rfl⟩
      go_wp2_with fail
      refine C2.out.mono ?_
      rintro e w1 ⟨rfl, rfl⟩
      clear C1 C2
      go_wp2_with fail
      refine (sortIf_c false 3 _).mono ?_
      rintro e w1 ⟨rfl, rfl⟩
      go_wp2_with fail
      go_ret
      exact ⟨by rw [HG2.out]; rfl, Upd.refl.alloc _⟩
  · have HG2 : Hid (goodSortF L 31 imm kids k = 0) := by
      simp only [Hid, goodSortF]
      simp [sortIfF, hodd]
    have e2 : (k.length : Int) % 2 = 0 := by omega
    go_enter Try.func37, Try.ntmps37
    go_wp2_with fail
    refine C1.out.mono ?_
    rintro e w1 ⟨rfl, rfl⟩
    go_wp2_with fail
    refine C2.out.mono ?_
    rintro e w1 ⟨rfl, rfl⟩
    clear C1 C2
    go_wp2_with fail
    refine (sortIf_c false 3 _).mono ?_
    rintro e w1 ⟨rfl, rfl⟩
    go_wp2_with fail
    go_ret
    exact ⟨by rw [HG2.out]; rfl, Upd.refl.alloc _⟩

/-- All operations. -/
theorem nodeSort_c (w : World) (F G : Nat → Prop) (LA KA KS : Option Addr) (lc kc ks : Nat) (L : List Nd) (op imm : Int) (kids k : List Int) (hL : NodesV w F LA L) (hk : Ints w F KA kids) (hK : Ints w G KS k)
    (hlen : k.length = kids.length) (hr : ∀ x ∈ kids, 0 ≤ x ∧ x < L.length) (hLk : ∀ nd ∈ L, nd.kids.length ≤ 1000000000000000) (hks : k.length ≤ ks) (hkl : k.length ≤ 1000000000000) :
    Calls Try.prog 37 #[.slice LA L.length lc, .agg #[.int .i64 op, .int .i64 imm, .slice KA kids.length kc], .slice KS k.length ks] w fun e w' => e = .returned (.int .i64 (nodeSortF L op imm kids k)) ∧ Upd Non w w' := by
  unfold nodeSortF
  cases hb : badNode op imm kids with
  | true => exact nodeSort_bad w LA KA KS L.length lc kc k.length ks op imm kids hb
  | false =>
    simp only [Bool.false_eq_true, if_false]
    by_cases h3 : op = 3
    · subst h3; exact nodeSort_3 w G LA KA KS L.length lc kc ks L imm kids k hb hK hlen
    by_cases h26 : op = 26
    · subst h26; exact nodeSort_26 w G LA KA KS L.length lc kc ks L imm kids k hb hK hlen
    by_cases h22 : op = 22
    · subst h22; exact nodeSort_22 w G LA KA KS L.length lc kc ks L imm kids k hb hK hlen
    by_cases h23 : op = 23
    · subst h23; exact nodeSort_23 w G LA KA KS L.length lc kc ks L imm kids k hb hK hlen
    by_cases h24 : op = 24
    · subst h24; exact nodeSort_24 w G LA KA KS L.length lc kc ks L imm kids k hb hK hlen
    by_cases h25 : op = 25
    · subst h25
      have hl : kids.length = 1 := by have := (badNode_no hb).1 (by decide); rw [show (arityF 25).1 = 1 from by decide] at this; omega
      have hq : 0 ≤ kids.getD 0 0 ∧ kids.getD 0 0 < L.length := by
        rw [← get0 (by omega : 0 < kids.length)]
        exact hr _ (List.getElem_mem _)
      exact nodeSort_25 w F G LA KA KS lc kc ks L imm kids k hb hL hk hK hlen hq hLk
    by_cases h27 : op = 27
    · subst h27; exact nodeSort_27 w G LA KA KS L.length lc kc ks L imm kids k hb hK hlen
    by_cases h29 : op = 29
    · subst h29; exact nodeSort_29 w G LA KA KS L.length lc kc ks L imm kids k hb hK hlen
    by_cases h28 : op = 28
    · subst h28; exact nodeSort_28 w G LA KA KS L.length lc kc ks L imm kids k hb hK hlen
    by_cases h30 : op = 30
    · subst h30; exact nodeSort_30 w G LA KA KS L.length lc kc ks L imm kids k hb hK hks hkl
    by_cases h31 : op = 31
    · subst h31; exact nodeSort_31 w G LA KA KS L.length lc kc ks L imm kids k hb hK hks hkl
    exact nodeSort_val w G LA KA KS L.length lc kc ks L op imm kids k hb hK hkl h3 h26 h22 h23 h24 h25 h27 h29 h28 h30 h31
end Go.Proofs.Ytlehiklgbladoaa
