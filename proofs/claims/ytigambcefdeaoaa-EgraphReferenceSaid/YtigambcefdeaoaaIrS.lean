/-
  What ir.sortOf, ir.sorts and ir.Sort do: they find the reference's sorts.
-/
import Derived.Test.YtigambcefdeaoaaIrC
namespace Go.Proofs.Ytigambcefdeaoaa
open Go.RowKit

/-- The sorts found so far, and zeros. -/
def known (L : List Nd) (k n : Nat) : List Int := sortsTo L k ++ List.replicate (n - k) 0
theorem known_len (L : List Nd) {k n : Nat} (h : k ≤ n) : (known L k n).length = n := by simp [known, sortsTo_len]; omega
theorem known_get (L : List Nd) {k n q : Nat} (hq : q < k) (h : k ≤ n) : (known L k n)[q]'(by rw [known_len L h]; omega) = (sortsTo L k).getD q 0 := by
  have hl := sortsTo_len L k
  unfold known
  rw [List.getElem_append_left (by omega), getD_lt (by omega)]
theorem known_set (L : List Nd) {k n : Nat} (h : k < n) (x : Int) (hx : sortsTo L (k + 1) = sortsTo L k ++ [x]) : (known L k n).set k x = known L (k + 1) n := by
  have hl := sortsTo_len L k
  unfold known
  rw [List.set_append_right _ _ (by omega), hl, Nat.sub_self, hx, show n - k = (n - (k + 1)) + 1 by omega, List.replicate_succ]
  simp
theorem known_all (L : List Nd) : known L L.length L.length = sortsF L := by simp [known, sortsF]
theorem known_zero (L : List Nd) (n : Nat) : known L 0 n = List.replicate n 0 := by simp [known, sortsTo]

theorem validOps_len {op : Int} {s : List Int} (h : validOpsF op s = true) (ho : 0 ≤ (arityF op).1) : (s.length : Int) = (arityF op).1 := by
  unfold validOpsF at h
  split at h
  · cases h
  · rename_i h1
    exact Decidable.byContradiction fun hne => h1 (.inr ⟨ho, fun e => hne e.symm⟩)
theorem sortIfF_le (b : Bool) (n : Int) : sortIfF b n = 0 ∨ sortIfF b n = n := by unfold sortIfF; split <;> simp
theorem nodeSort_range {L : List Nd} {op imm : Int} {kids k : List Int} (hk : ∀ x ∈ k, 0 ≤ x ∧ x ≤ 3) : 0 ≤ nodeSortF L op imm kids k ∧ nodeSortF L op imm kids k ≤ 3 := by
  have h0 : 0 ≤ k.getD 1 0 ∧ k.getD 1 0 ≤ 3 := by
    by_cases h : 1 < k.length
    · rw [getD_lt h]; exact hk _ (List.getElem_mem h)
    · simp [List.getD, List.getElem?_eq_none (show k.length ≤ 1 by omega)]
  unfold nodeSortF goodSortF sortIfF
  (repeat' split) <;> omega
theorem sortsTo_range (L : List Nd) : ∀ k, ∀ x ∈ sortsTo L k, 0 ≤ x ∧ x ≤ 3
  | 0, x, h => by cases h
  | k + 1, x, h => by
    have ih := sortsTo_range L k
    rcases List.mem_append.1 h with h | h
    · exact ih x h
    · simp at h
      subst h
      unfold sortsStep
      split
      · apply nodeSort_range
        intro y hy
        obtain ⟨q, _, rfl⟩ := List.mem_map.1 hy
        by_cases hq : q.toNat < (sortsTo L k).length
        · rw [getD_lt hq]; exact ih _ (List.getElem_mem hq)
        · simp [List.getD, List.getElem?_eq_none (show (sortsTo L k).length ≤ q.toNat by omega)]
      · omega
theorem sortsTo_pre (L : List Nd) {k m q : Nat} (hk : k ≤ m) (hq : q < k) : (sortsTo L m).getD q 0 = (sortsTo L k).getD q 0 := by
  induction m with
  | zero => omega
  | succ m ih =>
    by_cases e : k = m + 1
    · rw [e]
    · have hl := sortsTo_len L m
      show (sortsTo L m ++ _).getD q 0 = _
      rw [List.getD, List.getElem?_append_left (by omega)]
      exact ih (by omega)
/-- A node of sort 3 is a loop. -/
theorem sort3_loop {L : List Nd} {op imm : Int} {kids k : List Int} (hk : ∀ x ∈ k, 0 ≤ x ∧ x ≤ 3) (h : nodeSortF L op imm kids k = 3) (hl : k.length = kids.length) : op = 31 ∧ kids.length % 2 = 1 ∧ kids.length ≤ 33 := by
  have h0 : 0 ≤ k.getD 1 0 ∧ k.getD 1 0 ≤ 3 := by
    by_cases h : 1 < k.length
    · rw [getD_lt h]; exact hk _ (List.getElem_mem h)
    · simp [List.getD, List.getElem?_eq_none (show k.length ≤ 1 by omega)]
  have key : op ≠ 31 → nodeSortF L op imm kids k ≠ 3 := by
    intro hne
    unfold nodeSortF goodSortF sortIfF
    (repeat' split) <;> omega
  by_cases e : op = 31
  · subst e
    refine ⟨rfl, ?_⟩
    unfold nodeSortF at h
    split at h
    · cases h
    · simp only [goodSortF, sortIfF] at h
      simp at h
      omega
  · exact absurd h (key e)
theorem sortsTo_loop {L : List Nd} {k q : Nat} (hq : q < k) (hk : k ≤ L.length) (h : (sortsTo L k).getD q 0 = 3) : (L.getD q ⟨0, 0, []⟩).kids.length % 2 = 1 ∧ (L.getD q ⟨0, 0, []⟩).kids.length ≤ 33 := by
  rw [sortsTo_pre L (show q + 1 ≤ k by omega) (show q < q + 1 by omega), sortsTo_succ L q (by omega)] at h
  have hl := sortsTo_len L q
  rw [List.getD, List.getElem?_append_right (by omega), hl, Nat.sub_self] at h
  simp only [List.getElem?_cons_zero, Option.getD_some] at h
  unfold sortsStep at h
  rw [getD_lt (show q < L.length by omega)]
  split at h
  · exact (sort3_loop (fun y hy => by
      obtain ⟨p, _, rfl⟩ := List.mem_map.1 hy
      by_cases hp : p.toNat < (sortsTo L q).length
      · rw [getD_lt hp]; exact sortsTo_range L q _ (List.getElem_mem hp)
      · simp [List.getD, List.getElem?_eq_none (show (sortsTo L q).length ≤ p.toNat by omega)]) h (by simp [kidSorts])).2
  · cases h

/-- What sortOf finds is the sort. -/
theorem irStep_eq {L : List Nd} {k : Nat} (hk : k < L.length) (h : kidsOk (sortsTo L k) L[k].kids = true) :
    irSortF L L[k].op L[k].imm L[k].kids (kidSorts (sortsTo L k) L[k].kids) = sortsStep L (sortsTo L k) L[k] := by
  unfold sortsStep
  rw [if_pos h]
  have hm : ∀ q ∈ L[k].kids, 0 ≤ q ∧ q < k ∧ (sortsTo L k).getD q.toNat 0 ≠ 0 := fun q hq => by
    unfold kidsOk at h
    rw [List.all_eq_true] at h
    have := kidOk_iff.1 (h q hq)
    rw [sortsTo_len] at this
    exact this
  apply irSort_eq
  · simp [kidSorts]
  · intro x hx
    obtain ⟨q, hq, rfl⟩ := List.mem_map.1 hx
    have h1 := hm q hq
    have hql : q.toNat < (sortsTo L k).length := by rw [sortsTo_len]; omega
    have h2 := sortsTo_range L k _ (List.getElem_mem hql)
    rw [getD_lt hql] at h1 ⊢
    omega
  · intro _ h3
    generalize hks : L[k].kids = ks at *
    match ks, h3, hm with
    | [], h3, _ => cases h3
    | q :: ks, h3, hm =>
      have h1 := hm q (by simp)
      exact sortsTo_loop (k := k) (q := q.toNat) (by omega) (by omega) h3

set_option maxRecDepth 100000 in
set_option maxHeartbeats 2000000 in
theorem irSortOf_c (w : World) (F G : Nat → Prop) (LA SA : Option Addr) (lc sc : Nat) (L : List Nd) (k : Nat) (hk : k < L.length) (hL : NodesV w F LA L) (hS : Ints w G SA (known L k L.length)) (_hn : L.length ≤ 100000000000) (hkk : ∀ nd ∈ L, nd.kids.length ≤ 100000000000) :
    Calls Try.prog 71 #[.slice LA L.length lc, .int .i64 k, .slice SA L.length sc] w fun e w' => e = .returned (.int .i64 (sortsStep L (sortsTo L k) L[k])) ∧ Upd Non w w' := by
  have HKK := Lib.hid hkk
  have hkl := hkk _ (List.getElem_mem hk)
  clear hkk
  have hL0 := hL.mono (G := (· < w.heap.size)) (fun k hk _ => hk)
  have hS0 := hS.mono (G := (· < w.heap.size)) (fun k hk _ => hk)
  have HE := Lib.hid (irStep_eq hk)
  have HZ : Hid (kidsOk (sortsTo L k) L[k].kids = false → sortsStep L (sortsTo L k) L[k] = 0) := fun h => by unfold sortsStep; rw [h]; rfl
  obtain ⟨lb, lo, rfl, hFl, hlb, hN⟩ := hL0.at_ hk
  obtain ⟨h1, h2, KA, kc, h3, hkc, hki⟩ := hN
  obtain ⟨nd, Hnd⟩ : ∃ nd, Hid (L[k] = nd) := nm _
  obtain ⟨R, HR⟩ := nm (sortsStep L (sortsTo L k) L[k])
  rw [HR.out] at HE HZ ⊢
  rw [Hnd.out] at HE HZ hkl h1 h2 h3 hkc hki
  have HKG := Lib.hid (fun q (hq : q < k) => known_get L (n := L.length) hq (by omega))
  have hkn := known_len L (k := k) (n := L.length) (by omega)
  obtain ⟨ks, Hks⟩ := nm (known L k L.length)
  simp only [Hks.out] at hkn hS0 HKG
  obtain ⟨out, Hout⟩ : ∃ out, Hid (sortsTo L k = out) := nm _
  have hol := sortsTo_len L k
  simp only [Hout.out] at HKG HE HZ hol
  have HOL := Lib.hid hol
  have HKN := Lib.hid hkn
  clear hL hS hol hkn
  go_enter Try.func71, Try.ntmps71
  go_wp2_with fail
  go_loopg [8, 10, 18] nd.kids.length (fun g v _ i wr => ∃ (j c2 : Nat) (A2 : Option Addr), Hid (g = nd.kids.length - j) ∧ j ≤ nd.kids.length ∧ i = .int .i64 j ∧ v = .slice A2 j c2 ∧ Own wr 3 1 A2 j c2 (icells (kidSorts out (nd.kids.take j))) ∧
    Hid (kidsOk out (nd.kids.take j) = true) ∧ Hid (∀ b, At A2 b → w.heap.size < b) ∧ Upd Non w wr ∧ Blk wr w.heap.size 24 #[.int .i64 nd.op, .int .i64 nd.imm, .slice KA nd.kids.length kc])
  case atStart => exact ⟨0, 0, none, rfl, by omega, rfl, rfl, Own.none_, by simp [Hid, kidsOk], fun j hj => (At.none_ hj).elim, Upd.refl.alloc _, Blk.new _ _ _⟩
  case round =>
    obtain ⟨j, c2, A2, Hg2, hj, rfl, rfl, ho2, Hok, HA2, hu2, hb2⟩ := hrel
    clear h1 h2 h3
    have cb0 := hb2.cell 0
    have cb1 := hb2.cell 1
    have cb2 := hb2.cell 2
    by_cases hlt2 : j < nd.kids.length
    · obtain ⟨kb, ko, rfl, hFk, hkb, hck⟩ := (hki.upd hu2 (fun _ _ _ f => f)).at_ hlt2
      have HKS := Lib.hid (kidSorts_snoc out nd.kids j hlt2)
      have HKO : Hid (kidsOk out (nd.kids.take (j + 1)) = kidOk out nd.kids[j]) := by show _ = _; rw [kidsOk_snoc out nd.kids j hlt2, Hok.out, Bool.true_and]
      have HNO := Lib.hid (kidsOk_no (out := out) hlt2)
      generalize nd.kids[j] = q at *
      have hOL := HOL.out
      by_cases h0 : q < 0
      · have hbad : kidOk out q = false := by simp [kidOk]; omega
        have hR := Lib.hid (HZ.out (HNO.out hbad))
        clear hOL hbad
        go_wp2_with fail
        go_ret
        exact ⟨by rw [hR.out]; rfl, hu2⟩
      by_cases h5 : (k : Int) ≤ q
      · have hbad : kidOk out q = false := by simp [kidOk]; omega
        have hR := Lib.hid (HZ.out (HNO.out hbad))
        clear hOL hbad
        go_wp2_with fail
        go_ret
        exact ⟨by rw [hR.out]; rfl, hu2⟩
      obtain ⟨p, rfl⟩ := Int.eq_ofNat_of_zero_le (show 0 ≤ q by omega)
      have hpk : p < k := by omega
      have hpo : p < out.length := by omega
      have hg := HKG.out p hpk
      rw [getD_lt hpo] at hg
      have hgd : out.getD p 0 = out[p] := getD_lt hpo
      obtain ⟨sb, so, rfl, _, hsb, hcs⟩ := (hS0.upd hu2 (fun _ _ _ f => f)).at_ (k := p) (by rw [HKN.out]; omega)
      rw [hg] at hcs
      simp only [Int.toNat_natCast, hgd] at HKS
      have hpL : p < L.length := by omega
      by_cases h6 : out[p] = 0
      · have hbad : kidOk out (p : Int) = false := by simp only [kidOk, Int.toNat_natCast, hgd, h6]; simp
        have hR := Lib.hid (HZ.out (HNO.out hbad))
        rw [h6] at hcs
        clear hOL hbad hgd hg h6
        go_wp2_with fail
        go_ret
        exact ⟨by rw [hR.out]; rfl, hu2⟩
      · have hgood : kidOk out (p : Int) = true := by rw [kidOk_iff, Int.toNat_natCast, hgd]; exact ⟨by omega, by omega, h6⟩
        have d6 : (out[p] == 0) = false := by simpa using h6
        have HKO2 : Hid (kidsOk out (nd.kids.take (j + 1)) = true) := by show _ = _; rw [HKO.out, hgood]
        generalize out[p] = x at *
        clear h6 hgd hgood HNO hOL hg
        go_wp2_with (at_builtin; refine wpList_app rfl rfl T_ints' rfl (ho2.alloc _) rfl (Sl.new _ _ _) rfl (by simp [Value.oneCell']) (by simp only [maxLen]; omega) (by omega) ?_; intro A3 c3 w3 ho3 hu3 hat3)
        have hb3 := (hb2.alloc (.cells #[Value.int .i64 x] 3)).upd hu3 (fun h => by have := HA2.out _ h; omega)
        go_roundg (nd.kids.length - (j + 1))
        case measure => rw [Hg2.out]; omega
        case rel =>
          refine ⟨j + 1, c3, A3, rfl, by omega, by go_num, rfl, by rw [HKS.out, icells_snoc]; exact ho3, HKO2, fun b hb => ?_, (hu2.alloc _).trans hu3 (fun i hi h => by have := HA2.out i h; omega), hb3⟩
          rcases hat3 b hb with h | h
          · exact HA2.out b h
          · have := hb2.lt; simp at h; omega
    · obtain rfl : nd.kids.length = j := by omega
      rw [List.take_length] at Hok ho2
      have hRE := Lib.hid (HE.out Hok.out)
      have hLv := hL0.upd hu2 (fun _ _ _ f => f)
      have hkv := hki.upd hu2 (fun _ _ _ f => f)
      have hkm := Lib.hid (kidsOk_mem Hok.out)
      have hlk : (kidSorts out nd.kids).length = nd.kids.length := by simp [kidSorts]
      have hle := ho2.le
      have C1 := Lib.hid (irValidOps_c wr (At A2) A2 KA c2 kc nd.kids.length nd.op nd.imm (kidSorts out nd.kids) ho2.ints (by omega) (by omega))
      rw [hlk] at C1
      have C2 := fun w2 (u : Upd Non wr w2) h25 => Lib.hid (irValidImm_c w2 (· < w.heap.size) (· < w.heap.size) (some ⟨lb, lo, none⟩) KA lc kc L nd.op nd.imm nd.kids (hLv.upd u (fun _ _ _ f => f)) (hkv.upd u (fun _ _ _ f => f)) HKK.out h25)
      obtain ⟨ss, Hss⟩ := nm (kidSorts out nd.kids)
      rw [Hss.out] at hRE C1 ho2 hlk
      have hOL := HOL.out
      cases hvo : validOpsF nd.op ss with
      | false =>
        rw [hvo] at C1
        have hR0 : Hid (R = 0) := by show _ = _; rw [← hRE.out]; simp [irSortF, hvo]
        clear hOL
        go_wp2_with fail
        refine C1.out.mono ?_
        rintro e w1 ⟨rfl, hu3⟩
        go_wp2_with fail
        go_ret
        exact ⟨by rw [hR0.out]; rfl, hu2.then_non hu3⟩
      | true =>
        rw [hvo] at C1
        have h25 : nd.op = 25 → ∃ q : Nat, nd.kids = [(q : Int)] ∧ q < L.length := fun e => by
          rw [e] at hvo
          have h1 := validOps_len hvo (by decide)
          have : (arityF 25).1 = 1 := rfl
          obtain ⟨q, hq⟩ := len1 (s := nd.kids) (by omega)
          have h2 := hkm.out q (by rw [hq]; simp)
          exact ⟨q.toNat, by rw [hq]; congr 1; omega, by omega⟩
        have H22 : Hid (nd.op = 22 → ss.length = 3) := fun e => by
          rw [e] at hvo
          have h1 := validOps_len hvo (by decide)
          have : (arityF 22).1 = 3 := rfl
          omega
        clear hOL
        have HC2 := Lib.hid (fun w2 u => C2 w2 u h25)
        clear h25 C2
        go_wp2_with fail
        refine C1.out.mono ?_
        rintro e w1 ⟨rfl, hu3⟩
        have C2 := HC2.out w1 hu3
        have hb3 := hb2.upd hu3 (fun f => f)
        have cc0 := hb3.cell 0
        have cc1 := hb3.cell 1
        have cc2 := hb3.cell 2
        have ho3 := ho2.upd hu3 (fun _ _ f => f)
        clear HC2 C1 cb0 cb1 cb2
        cases hvi : irImmF L nd.op nd.imm nd.kids with
        | false =>
          rw [hvi] at C2
          have hR0 : Hid (R = 0) := by show _ = _; rw [← hRE.out]; simp [irSortF, hvi]
          go_wp2_with fail
          refine C2.out.mono ?_
          rintro e w2 ⟨rfl, hu4⟩
          go_wp2_with fail
          go_ret
          exact ⟨by rw [hR0.out]; rfl, (hu2.then_non hu3).then_non hu4⟩
        | true =>
          rw [hvi] at C2
          have hR0 : Hid (R = resSortF nd.op nd.imm ss) := by show _ = _; rw [← hRE.out]; simp [irSortF, hvi, hvo]
          go_wp2_with fail
          refine C2.out.mono ?_
          rintro e w2 ⟨rfl, hu4⟩
          have hb4 := hb3.upd hu4 (fun f => f)
          have cd0 := hb4.cell 0
          have cd1 := hb4.cell 1
          have ho4 := ho3.upd hu4 (fun _ _ f => f)
          have hU := (hu2.then_non hu3).then_non hu4
          clear cc0 cc1 cc2 C2 hvi hvo hRE
          have HND := Hnd
          generalize nd.op = op at *
          generalize nd.imm = imm at *
          by_cases e22 : op = 22
          · subst e22
            have h3 := H22.out rfl
            obtain ⟨a, b, c, rfl⟩ := len3 h3
            obtain ⟨g, rfl⟩ := ho4.some_ (by omega)
            have cg : w2.cell? ⟨g, 1, none⟩ = some (.int .i64 b) := ho4.cell_ (i := 1) (by simp [icells])
            have hnk : (1 : Int) < (nd.kids.length : Int) := by simp at hlk; omega
            go_wp2_with fail
            go_ret
            exact ⟨by rw [hR0.out]; rfl, hU⟩
          · go_wp2_with fail
            all_goals
              go_ret
              refine ⟨?_, hU⟩
              rw [hR0.out]
              (try simp only [beq_iff_eq, beq_eq_false_iff_ne, ne_eq] at *)
              unfold resSortF
              (repeat' split) <;> first | rfl | (exfalso; omega) | skip

theorem zero_int' : (Try.prog.info? 3).bind (·.zero) = some (.int .i64 0) := by kernel_rfl
theorem icells_rep (n : Nat) : (Array.replicate n (Value.int .i64 0)).toList = icells (List.replicate n 0) := by simp [icells]

set_option maxRecDepth 100000 in
set_option maxHeartbeats 2000000 in
theorem irSorts_c (w : World) (F : Nat → Prop) (LA : Option Addr) (lc : Nat) (L : List Nd) (hL : NodesV w F LA L) (hn : L.length ≤ 100000000000) (hk : ∀ nd ∈ L, nd.kids.length ≤ 100000000000) :
    Calls Try.prog 65 #[.slice LA L.length lc] w fun e w' => ∃ A c, e = .returned (.slice A L.length c) ∧ Ints w' (fun _ => True) A (sortsF L) ∧ Upd Non w w' := by
  have HK := Lib.hid hk
  clear hk
  have hL0 := hL.mono (G := (· < w.heap.size)) (fun k hk _ => hk)
  clear hL
  obtain ⟨n, Hn⟩ := nm L.length
  rw [Hn.out] at hn ⊢
  have hmk := run_mk (P := Try.prog) T_ints' zero_int' rfl n (by omega) (by omega)
  go_enter Try.func65, Try.ntmps65
  go_wp2_with fail
  go_loopg [4, 10] n (fun g _ i wr => ∃ (k : Nat), Hid (g = n - k) ∧ k ≤ n ∧ i = .int .i64 k ∧ Own wr 3 1 (some ⟨w.heap.size, 0, none⟩) n n (icells (known L k n)) ∧ Upd Non w wr)
  case atStart =>
    refine ⟨0, rfl, by omega, rfl, Own.mk_ (Blk.new _ _ _) (Nat.le_refl _) (by simp only [maxLen]; omega) (by simp) ?_, Upd.refl.alloc _⟩
    rw [known_zero, icells_rep, List.take_of_length_le (by simp [icells])]
  case round =>
    obtain ⟨k, Hg, hk, rfl, ho, hu⟩ := hrel
    by_cases hlt : k < n
    · have hkL : k < L.length := by rw [Hn.out]; exact hlt
      have hlv := hL0.upd hu (fun _ _ _ f => f)
      have C1 := Lib.hid (irSortOf_c wr (· < w.heap.size) (At (some ⟨w.heap.size, 0, none⟩)) LA (some ⟨w.heap.size, 0, none⟩) lc n L k hkL hlv (by rw [Hn.out]; exact ho.ints) (by rw [Hn.out]; omega) HK.out)
      have HS := Lib.hid (known_set L (n := n) hlt _ (sortsTo_succ L k hkL))
      obtain ⟨x, Hx⟩ := nm (sortsStep L (sortsTo L k) L[k])
      rw [Hx.out] at C1 HS
      rw [Hn.out] at C1
      clear hmk
      go_wp2_with fail
      refine C1.out.mono ?_
      rintro e w1 ⟨rfl, hu1⟩
      have ho1 := ho.upd hu1 (fun _ _ f => f)
      obtain ⟨y, cy⟩ : ∃ y, w1.cell? ⟨w.heap.size, k, none⟩ = some (.int .i64 y) := ⟨_, by rw [ho1.cell_ (by simp [icells, known_len L hk]; omega)]; simp [icells]; rfl⟩
      have fy := ho1.frozen_ k
      have ho2 := ho1.set_ k (.int .i64 x)
      have hu2 := (hu.then_non hu1).setCell (p := ⟨w.heap.size, k, none⟩) (.inr (Nat.le_refl _)) (.int .i64 x)
      rw [show (icells (known L k n)).set k (.int .i64 x) = icells (known L (k + 1) n) by rw [← HS.out]; simp [icells, List.map_set]] at ho2
      clear C1 ho1 ho
      go_wp2_with fail
      go_roundg (n - (k + 1))
      case measure => rw [Hg.out]; omega
      case rel => exact ⟨k + 1, rfl, by omega, by go_num, ho2, hu2⟩
    · obtain rfl : n = k := by omega
      go_wp2_with fail
      go_ret
      refine ⟨_, _, rfl, ?_, hu⟩
      have := ho.ints
      rw [← Hn.out, known_all] at this
      exact this.mono (fun _ _ _ => trivial)

set_option maxHeartbeats 1000000 in
theorem irSort_c (w : World) (F : Nat → Prop) (LA : Option Addr) (lc : Nat) (L : List Nd) (i : Nat) (hL : NodesV w F LA L) (hc : L.length ≤ lc) (hi : i < L.length) (hn : L.length ≤ 100000000000) (hk : ∀ nd ∈ L, nd.kids.length ≤ 100000000000) :
    Calls Try.prog 34 #[.slice LA L.length lc, .int .i64 i] w fun e w' => e = .returned (.int .i64 ((sortsF (L.take (i + 1))).getD i 0)) ∧ Upd Non w w' := by
  have hl : (L.take (i + 1)).length = i + 1 := by simp; omega
  have hLt : NodesV w F LA (L.take (i + 1)) := by
    rcases hL with rfl | ⟨b, off, e, hF, hc⟩
    · exact .inl (by simp)
    · refine .inr ⟨b, off, e, hF, fun i hi => ?_⟩
      have hi' : i < L.length := by simp at hi; omega
      simpa using hc i hi'
  have C1 := Lib.hid (irSorts_c w F LA lc (L.take (i + 1)) hLt (by omega) (fun nd h => hk nd (List.mem_of_mem_take h)))
  have hsl : (sortsF (L.take (i + 1))).length = i + 1 := by unfold sortsF; rw [sortsTo_len, hl]
  obtain ⟨S, HS⟩ := nm (sortsF (L.take (i + 1)))
  rw [HS.out] at C1 hsl ⊢
  rw [hl] at C1
  have d1 : decide ((i : Int) < 0) = false := by simp
  have d2 : decide ((L.length : Int) ≤ (i : Int)) = false := by simp; omega
  have d3 : decide (L.length ≤ i) = false := by simp; omega
  obtain ⟨x, Hx⟩ := nm (S.getD i 0)
  rw [Hx.out]
  clear hL hk hl hLt
  go_enter Try.func34, Try.ntmps34
  go_wp2_with fail
  refine C1.out.mono ?_
  rintro e w1 ⟨A, c, rfl, ho, hu⟩
  obtain ⟨b, o, rfl, _, _, hc1⟩ := ho.at_ (k := i) (by omega)
  have HG := Lib.hid (getD_lt (d := (0 : Int)) (show i < S.length by omega))
  rw [← HG.out, Hx.out] at hc1
  go_wp2_with fail
  go_ret
  exact ⟨rfl, hu⟩
end Go.Proofs.Ytigambcefdeaoaa
