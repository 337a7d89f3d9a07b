/-
  What the small functions of package ir do: Arity, loopVars, operandSorts, match, loopSorts, validImm.
  What ir.validImm and ir.validOperands do.
  What ir.validOperands does at a call (operation 30).
  What ir.validOperands does at a selection of states (operation 22).
  What ir.validOperands does at the other operations.
  What ir.validOperands does.
-/
import Derived.Test.YtigambcefdeaoaaProg
import Derived.Test.YtigambcefdeaoaaSorts
import Derived.Test.YtigambcefdeaoaaIrP
import Derived.IntWalk
namespace Go.Proofs.Ytigambcefdeaoaa
open Go.RowKit

set_option maxHeartbeats 1000000 in
theorem irArity_c (op : Int) (w : World) : Calls Try.prog 79 #[.int .i64 op] w fun e w' => e = .returned (.tuple #[.int .i64 (arityF op).1, .bool (arityF op).2]) ∧ w = w' := by
  go_enter Try.func79, Try.ntmps79
  go_wp2
  all_goals
    go_ret2
    refine ⟨?_, rfl⟩
    (try simp only [beq_iff_eq, beq_eq_false_iff_ne, ne_eq] at *)
    unfold arityF
    (repeat' split) <;> first | rfl | (exfalso; omega)

theorem wrap64_sm {x : Int} (h : -9223372036854775808 ≤ x ∧ x ≤ 9223372036854775807) : wrap64 x = x := by unfold wrap64; omega
theorem tdiv2_small {n : Int} (h : -1 ≤ n) (h2 : n ≤ 1000000000000000) : -1 ≤ n.tdiv 2 ∧ n.tdiv 2 ≤ 1000000000000000 := by
  by_cases h0 : 0 ≤ n
  · rw [Int.tdiv_eq_ediv_of_nonneg h0]; omega
  · have : n = -1 := by omega
    subst this; decide

set_option maxHeartbeats 400000 in
theorem irLoopVars_c (n : Int) (w : World) (h : 0 ≤ n) (h2 : n ≤ 1000000000000000) : Calls Try.prog 80 #[.int .i64 n] w fun e w' => e = .returned (.int .i64 ((n - 1).tdiv 2)) ∧ w = w' := by
  have H1 := Lib.hid (tdiv2_small (n := n - 1) (by omega) (by omega))
  have hw : wrap64 ((n - 1).tdiv 2) = (n - 1).tdiv 2 := wrap64_sm (by have := H1.out; omega)
  go_enter Try.func80, Try.ntmps80
  go_wp2_with fail
  go_ret
  exact ⟨rfl, rfl⟩

set_option maxHeartbeats 1000000 in
theorem irOperandSorts_c (op : Int) (w : World) : Calls Try.prog 83 #[.int .i64 op] w fun e w' => ∃ A c, e = .returned (.slice A (opSortsF op).length c) ∧ Ints w' (fun _ => True) A (opSortsF op) ∧ Upd Non w w' := by
  go_enter Try.func83, Try.ntmps83
  go_wp2
  all_goals
    go_ret
    (try simp only [beq_iff_eq, beq_eq_false_iff_ne, ne_eq] at *)
    unfold opSortsF
    (repeat' split) <;> first | (exact ⟨_, _, rfl, Ints.new _ rfl rfl, Upd.refl.alloc _⟩) | (exfalso; omega)

set_option maxHeartbeats 400000 in
theorem irMatch_c (w : World) (F G : Nat → Prop) (A B : Option Addr) (c d : Nat) (xs ys : List Int) (hx : Ints w F A xs) (hy : Ints w G B ys) (hl : xs.length ≤ 1000000000000) (hle : xs.length ≤ ys.length) :
    Calls Try.prog 81 #[.slice A xs.length c, .slice B ys.length d] w fun e w' => e = .returned (.bool (matchF xs ys)) ∧ Upd Non w w' := by
  go_enter Try.func81, Try.ntmps81
  go_wp2_with fail
  go_loopg [5] xs.length (fun g i wr => ∃ k n : Nat, Hid (g = xs.length - k) ∧ k ≤ xs.length ∧ i = .int .i64 k ∧ Hid (xs.take k = ys.take k) ∧ wr = w.drewN n)
  case atStart => exact ⟨0, 0, rfl, by omega, rfl, rfl, rfl⟩
  case round =>
    obtain ⟨k, n, Hg, hk, rfl, Hp, rfl⟩ := hrel
    by_cases hlt : k < xs.length
    · have hlt2 : k < ys.length := by omega
      obtain ⟨b1, o1, rfl, _, _, h1⟩ := hx.at_ hlt
      obtain ⟨b2, o2, rfl, _, _, h2⟩ := hy.at_ hlt2
      have HT := Lib.hid (List.take_succ_eq_append_getElem hlt)
      have HT2 := Lib.hid (List.take_succ_eq_append_getElem hlt2)
      have HNE : Hid (xs[k] ≠ ys[k] → matchF xs ys = false) := by
        intro h; unfold matchF; rw [decide_eq_false_iff_not]; intro e
        have := List.getElem_of_eq e hlt
        rw [List.getElem_take] at this
        exact h this
      generalize xs[k] = x at *
      generalize ys[k] = y at *
      by_cases he : x = y
      · subst he
        go_wp2_with fail
        go_quiet (fail)
        go_wp2_with fail
        go_roundg (xs.length - (k + 1))
        case measure => rw [Hg.out]; omega
        case rel => exact ⟨k + 1, _, rfl, by omega, by go_num, by show _ = _; rw [HT.out, HT2.out, Hp.out], rfl⟩
      · have hf := Lib.hid (HNE.out he)
        have hb : (x != y) = true := by simp [he]
        clear he
        go_wp2_with fail
        go_quiet (fail)
        go_wp2_with fail
        go_ret
        exact ⟨by rw [hf.out]; rfl, (Upd.refl.drewN _).drewN _⟩
    · obtain rfl : xs.length = k := by omega
      go_wp2_with fail
      go_ret
      have : matchF xs ys = true := by
        have := Hp.out
        rw [List.take_length] at this
        simpa [matchF] using this
      exact ⟨by rw [this]; rfl, Upd.refl.drewN _⟩

theorem Own.set_ {w : World} {e : TypeId} {g n c : Nat} {cs : List Value} (h : Own w e 1 (some ⟨g, 0, none⟩) n c cs) (i : Nat) (u : Value) : Own (w.setCell ⟨g, i, none⟩ u) e 1 (some ⟨g, 0, none⟩) n c (cs.set i u) := by
  rcases h.cases with ⟨h0, _⟩ | ⟨g', cur, e1, hb, hn, hm, hs, ht⟩
  · cases h0
  · injection e1 with e1; injection e1 with e1; subst e1
    refine Own.mk_ (hb.set_ i u) hn hm (by simpa using hs) ?_
    rw [Array.toList_setIfInBounds, List.take_set, ht]
theorem Own.cell_ {w : World} {e : TypeId} {g n c : Nat} {cs : List Value} (h : Own w e 1 (some ⟨g, 0, none⟩) n c cs) {i : Nat} (hi : i < cs.length) : w.cell? ⟨g, i, none⟩ = some cs[i] := by
  rcases h.cases with ⟨h0, _⟩ | ⟨g', cur, e1, hb, hn, hm, hs, ht⟩
  · cases h0
  · injection e1 with e1; injection e1 with e1; subst e1
    subst ht
    rw [hb.cell]
    simp at hi ⊢
theorem Own.frozen_ {w : World} {e : TypeId} {g n c : Nat} {cs : List Value} (h : Own w e 1 (some ⟨g, 0, none⟩) n c cs) (i : Nat) : w.frozen? ⟨g, i, none⟩ = false := by
  rcases h.cases with ⟨h0, _⟩ | ⟨g', cur, e1, hb, hn, hm, hs, ht⟩
  · cases h0
  · injection e1 with e1; injection e1 with e1; subst e1
    exact hb.frozen i
theorem Own.some_ {w : World} {e : TypeId} {size : Nat} {A : Option Addr} {n c : Nat} {cs : List Value} (h : Own w e size A n c cs) (hn : 0 < n) : ∃ g, A = some ⟨g, 0, none⟩ := by
  rcases h.cases with ⟨_, h0, _⟩ | ⟨g, cur, e1, _⟩
  · omega
  · exact ⟨g, e1⟩

set_option maxHeartbeats 1000000 in
theorem irLoopSorts_c (n : Nat) (w : World) (h3 : 3 ≤ n) (h33 : n ≤ 1000) :
    Calls Try.prog 82 #[.int .i64 n] w fun e w' => ∃ A c, e = .returned (.slice A n c) ∧ Ints w' (fun _ => True) A (loopSortsF n) ∧ Upd Non w w' := by
  go_enter Try.func82, Try.ntmps82
  go_wp2_with fail
  go_loopg [3, 4] n (fun g v i wr => ∃ (k cc : Nat) (A : Option Addr), Hid (g = n - k) ∧ k ≤ n ∧ i = .int .i64 k ∧ v = .slice A k cc ∧ Own wr 3 1 A k cc (icells (List.replicate k 1)) ∧ Hid (∀ j, At A j → w.heap.size ≤ j) ∧ Upd Non w wr)
  case atStart => exact ⟨0, 0, none, rfl, by omega, rfl, rfl, Own.none_, fun j hj => (At.none_ hj).elim, Upd.refl⟩
  case round =>
    obtain ⟨k, cc, A, Hg, hk, rfl, rfl, ho, HA, hu⟩ := hrel
    by_cases hlt : k < n
    · have HR : Hid (List.replicate (k + 1) (1 : Int) = List.replicate k 1 ++ [1]) := List.replicate_succ'
      go_wp2_with (at_builtin; refine wpList_app rfl rfl T_ints' rfl (ho.alloc _) rfl (Sl.new _ _ _) rfl (by simp [Value.oneCell']) (by simp only [maxLen]; omega) (by omega) ?_; intro A3 c3 w3 ho3 hu3 hat3)
      go_roundg (n - (k + 1))
      case measure => rw [Hg.out]; omega
      case rel =>
        refine ⟨k + 1, c3, A3, rfl, by omega, by go_num, rfl, by rw [HR.out, icells_snoc]; exact ho3, fun b hb => ?_, (hu.alloc _).trans hu3 (fun i hi h => by have := HA.out i h; omega)⟩
        rcases hat3 b hb with h | h
        · exact HA.out b h
        · have := hu.size; simp at h; omega
    · obtain rfl : n = k := by omega
      obtain ⟨g, rfl⟩ := ho.some_ (by omega)
      have hg := HA.out g (At.some_.2 rfl)
      have C1 := Lib.hid (irLoopVars_c n wr (by omega) (by omega))
      have e1 : ((n : Int) - 1).tdiv 2 = (((n - 1) / 2 : Nat) : Int) := by rw [Int.tdiv_eq_ediv_of_nonneg (by omega)]; omega
      rw [e1] at C1
      have hv : (n - 1) / 2 + 1 < n := by omega
      obtain ⟨v, Hv⟩ := nm ((n - 1) / 2)
      have HLS : Hid (icells (loopSortsF n) = ((icells (List.replicate n 1)).set 0 (.int .i64 2)).set (v + 1) (.int .i64 2)) := by
        show _ = _
        unfold loopSortsF
        rw [Hv.out]
        simp [icells, List.map_set]
      rw [Hv.out] at C1 hv
      obtain ⟨x0, c0⟩ : ∃ x, wr.cell? ⟨g, 0, none⟩ = some (.int .i64 x) := ⟨_, by rw [ho.cell_ (by simp [icells]; omega)]; simp [icells]; rfl⟩
      have f0 := ho.frozen_ 0
      have ho1 := ho.set_ 0 (.int .i64 2)
      obtain ⟨x1, c1⟩ : ∃ x, (wr.setCell ⟨g, 0, none⟩ (.int .i64 2)).cell? ⟨g, v + 1, none⟩ = some (.int .i64 x) := ⟨_, by rw [ho1.cell_ (by simp [icells]; omega)]; simp [icells]; rfl⟩
      have f1 := ho1.frozen_ (v + 1)
      have ho2 := ho1.set_ (v + 1) (.int .i64 2)
      rw [← HLS.out] at ho2
      have hu2 := (hu.setCell (p := ⟨g, 0, none⟩) (.inr hg) (.int .i64 2)).setCell (p := ⟨g, v + 1, none⟩) (.inr hg) (.int .i64 2)
      clear e1 ho1 HLS
      go_wp2_with (go_at_call 80; refine C1.out.mono ?_; rintro e w' ⟨rfl, rfl⟩)
      go_ret
      exact ⟨_, _, rfl, ho2.ints.mono (fun _ _ _ => trivial), hu2⟩
end Go.Proofs.Ytigambcefdeaoaa

namespace Go.Proofs.Ytigambcefdeaoaa
open Go.RowKit

theorem NodesV.len_ {w : World} {F : Nat → Prop} {A : Option Addr} {L : List Nd} (h : NodesV w F A L) {i : Nat} (hi : i < L.length) : ∃ b off KA kc, A = some ⟨b, off, none⟩ ∧ b < w.heap.size ∧ w.cell? ⟨b, off + i * 3 + 2, none⟩ = some (.slice KA L[i].kids.length kc) := by
  obtain ⟨b, off, e, _, hb, _, _, KA, kc, h3, _⟩ := h.at_ hi
  exact ⟨b, off, KA, kc, e, hb, h3⟩

set_option maxRecDepth 100000 in
set_option maxHeartbeats 1000000 in
theorem irValidImm_c (w : World) (F G : Nat → Prop) (LA KA : Option Addr) (lc kc : Nat) (L : List Nd) (op imm : Int) (kids : List Int) (hL : NodesV w F LA L) (hk : Ints w G KA kids) (hkk : ∀ nd ∈ L, nd.kids.length ≤ 100000000000)
    (h25 : op = 25 → ∃ q : Nat, kids = [(q : Int)] ∧ q < L.length) :
    Calls Try.prog 77 #[.slice LA L.length lc, .agg #[.int .i64 op, .int .i64 imm, .slice KA kids.length kc]] w fun e w' => e = .returned (.bool (irImmF L op imm kids)) ∧ Upd Non w w' := by
  by_cases h : op = 25
  · obtain ⟨q, rfl, hq⟩ := h25 h
    subst h
    obtain ⟨kb, ko, rfl, _, hkb, hck⟩ := hk.at_ (k := 0) (by simp)
    rw [Nat.add_zero] at hck
    obtain ⟨lb, lo, QA, qc, rfl, hlb, hcl⟩ := hL.len_ hq
    have hql := hkk _ (List.getElem_mem hq)
    have HI : Hid (irImmF L 25 imm [(q : Int)] = decide (0 ≤ imm ∧ imm ≤ ((L[q].kids.length : Int) - 1).tdiv 2 - 1)) := by
      show _ = _
      simp [irImmF, mostF, List.getD, hq]
    generalize L[q].kids.length = m at *
    have C1 := Lib.hid (irLoopVars_c m ((w.alloc (.cells #[.int .i64 25, .int .i64 imm, .slice (some ⟨kb, ko, none⟩) 1 kc] 24))) (by omega) (by omega))
    have hr := tdiv2_small (n := (m : Int) - 1) (by omega) (by omega)
    generalize ((m : Int) - 1).tdiv 2 = v at *
    have hw : wrap64 (v - 1) = v - 1 := wrap64_sm (by omega)
    clear hL hk hkk h25
    go_enter Try.func77, Try.ntmps77
    go_wp2_with fail
    refine C1.out.mono ?_
    rintro e w' ⟨rfl, rfl⟩
    go_wp2_with fail
    all_goals
      go_ret
      refine ⟨?_, Upd.refl.alloc _⟩
      rw [HI.out]
      simp
      try omega
  · clear h25
    go_enter Try.func77, Try.ntmps77
    go_wp2
    all_goals
      first
      | (exfalso; simp only [beq_iff_eq] at *; omega)
      | skip
    all_goals
      go_ret
      refine ⟨?_, Upd.refl.alloc _⟩
      (try simp only [beq_iff_eq, beq_eq_false_iff_ne, ne_eq] at *)
      unfold irImmF mostF
      (repeat' split) <;> first | rfl | (exfalso; omega) | (simp; done) | (simp; omega)

set_option maxRecDepth 100000 in
set_option maxHeartbeats 2000000 in
theorem irVO_bad (w : World) (F : Nat → Prop) (SA KA : Option Addr) (sc kc kl : Nat) (op : Int) (imm : Int) (s : List Int) (hs : Ints w F SA s) (_hn : s.length ≤ 100000000000) (_hsc : s.length ≤ sc) (hbad0 : (arityF op).2 = false ∨ (0 ≤ (arityF op).1 ∧ (arityF op).1 ≠ s.length)) :
    Calls Try.prog 76 #[.agg #[.int .i64 op, .int .i64 imm, .slice KA kl kc], .slice SA s.length sc] w fun e w' => e = .returned (.bool (validOpsF op s)) ∧ Upd Non w w' := by
  obtain ⟨ar, Har⟩ := nm (arityF op).1
  obtain ⟨ok, Hok⟩ := nm (arityF op).2
  have C0 := fun w0 => Lib.hid (irArity_c op w0)
  simp only [Har.out, Hok.out] at C0
  have hs1 := hs.upd (Upd.refl.alloc (.cells #[.int .i64 op, .int .i64 imm, .slice KA kl kc] 24) (S := Non)) (fun _ _ _ f => f)
  have hu1 : Upd Non w (w.alloc (.cells #[.int .i64 op, .int .i64 imm, .slice KA kl kc] 24)) := Upd.refl.alloc _
  have hb1 := Blk.new w 24 #[.int .i64 op, .int .i64 imm, .slice KA kl kc]
  generalize HW : w.alloc (.cells #[.int .i64 op, .int .i64 imm, .slice KA kl kc] 24) = W at *
  have cw0 := hb1.cell 0
  have hbad : ok = false ∨ (0 ≤ ar ∧ ar ≠ s.length) := by rw [← Har.out, ← Hok.out]; exact hbad0
  clear hbad0
  have HV : Hid (validOpsF op s = false) := by
    show _ = _
    unfold validOpsF
    rw [if_pos (by rw [Har.out, Hok.out]; exact hbad)]
  cases ok with
  | false =>
    go_enter Try.func76, Try.ntmps76
    go_wp2_with (go_at_call 79; refine (C0 W).out.mono ?_; rintro e w' ⟨rfl, rfl⟩)
    go_ret
    exact ⟨by rw [HV.out]; rfl, hu1⟩
  | true =>
    have h0 : 0 ≤ ar := by rcases hbad with h | h; cases h; exact h.1
    have hb : (ar != (s.length : Int)) = true := by rcases hbad with h | h; cases h; simpa using h.2
    go_enter Try.func76, Try.ntmps76
    go_wp2_with (go_at_call 79; refine (C0 W).out.mono ?_; rintro e w' ⟨rfl, rfl⟩)
    go_ret
    exact ⟨by rw [HV.out]; rfl, hu1⟩

set_option maxRecDepth 100000 in
set_option maxHeartbeats 2000000 in
theorem irVO_31 (w : World) (F : Nat → Prop) (SA KA : Option Addr) (sc kc kl : Nat) (imm : Int) (s : List Int) (hs : Ints w F SA s) (hn : s.length ≤ 100000000000) (_hsc : s.length ≤ sc) :
    Calls Try.prog 76 #[.agg #[.int .i64 31, .int .i64 imm, .slice KA kl kc], .slice SA s.length sc] w fun e w' => e = .returned (.bool (validOpsF 31 s)) ∧ Upd Non w w' := by
  have C0 := fun w0 => Lib.hid (irArity_c 31 w0)
  simp only [show arityF 31 = (-1, true) from rfl] at C0
  have hs1 := hs.upd (Upd.refl.alloc (.cells #[.int .i64 31, .int .i64 imm, .slice KA kl kc] 24) (S := Non)) (fun _ _ _ f => f)
  have hu1 : Upd Non w (w.alloc (.cells #[.int .i64 31, .int .i64 imm, .slice KA kl kc] 24)) := Upd.refl.alloc _
  have hb1 := Blk.new w 24 #[.int .i64 31, .int .i64 imm, .slice KA kl kc]
  generalize HW : w.alloc (.cells #[.int .i64 31, .int .i64 imm, .slice KA kl kc] 24) = W at *
  have cw0 := hb1.cell 0
  have HV : Hid (validOpsF 31 s = decide (3 ≤ s.length ∧ s.length % 2 = 1 ∧ (s.length - 1) / 2 ≤ 16 ∧ s = loopSortsF s.length)) := rfl
  by_cases h3 : s.length < 3
  · go_enter Try.func76, Try.ntmps76
    go_wp2_with (go_at_call 79; refine (C0 W).out.mono ?_; rintro e w' ⟨rfl, rfl⟩)
    go_ret
    exact ⟨by rw [HV.out]; simp; omega, hu1⟩
  have e1 : ((s.length : Int) - 1).tdiv 2 = (((s.length - 1) / 2 : Nat) : Int) := by rw [Int.tdiv_eq_ediv_of_nonneg (by omega)]; omega
  have C1 := Lib.hid (irLoopVars_c s.length W (by omega) (by omega))
  rw [e1] at C1
  have et : ((s.length : Int)).tmod 2 = ((s.length % 2 : Nat) : Int) := by rw [Int.tmod_eq_emod_of_nonneg (by omega)]; omega
  by_cases h2 : s.length % 2 = 1
  · rw [h2] at et
    by_cases h16 : (s.length - 1) / 2 ≤ 16
    · have C2 := Lib.hid (irLoopSorts_c s.length W (by omega) (by omega))
      have hll : (loopSortsF s.length).length = s.length := by simp [loopSortsF]
      have HV2 : Hid (validOpsF 31 s = matchF s (loopSortsF s.length)) := by
        show _ = _
        rw [HV.out]
        unfold matchF
        rw [List.take_of_length_le (by omega)]
        simp [h2, h16]
        omega
      clear e1 HV
      obtain ⟨v, Hv⟩ := nm ((s.length - 1) / 2)
      rw [Hv.out] at C1 h16
      go_enter Try.func76, Try.ntmps76
      go_wp2_with (go_at_call 79; refine (C0 W).out.mono ?_; rintro e w' ⟨rfl, rfl⟩)
      refine C1.out.mono ?_
      rintro e w' ⟨rfl, rfl⟩
      go_wp2_with fail
      refine C2.out.mono ?_
      rintro e w2 ⟨A2, c2, rfl, hi2, hu2⟩
      have C3 := Lib.hid (irMatch_c w2 F (fun _ => True) SA A2 sc c2 s (loopSortsF s.length) (hs1.upd hu2 (fun _ _ _ f => f)) hi2 (by omega) (by omega))
      rw [hll] at C3
      go_wp2_with fail
      refine C3.out.mono ?_
      rintro e w3 ⟨rfl, hu3⟩
      go_wp2_with fail
      go_ret
      exact ⟨by rw [HV2.out]; rfl, (hu1.then_non hu2).then_non hu3⟩
    · obtain ⟨v, Hv⟩ := nm ((s.length - 1) / 2)
      rw [Hv.out] at C1 h16 HV
      clear e1
      go_enter Try.func76, Try.ntmps76
      go_wp2_with (go_at_call 79; refine (C0 W).out.mono ?_; rintro e w' ⟨rfl, rfl⟩)
      refine C1.out.mono ?_
      rintro e w' ⟨rfl, rfl⟩
      go_wp2_with fail
      go_ret
      exact ⟨by rw [HV.out]; simp; omega, hu1⟩
  · have h20 : s.length % 2 = 0 := by omega
    rw [h20] at et
    clear e1
    go_enter Try.func76, Try.ntmps76
    go_wp2_with (go_at_call 79; refine (C0 W).out.mono ?_; rintro e w' ⟨rfl, rfl⟩)
    go_ret
    exact ⟨by rw [HV.out]; simp; omega, hu1⟩

end Go.Proofs.Ytigambcefdeaoaa

namespace Go.Proofs.Ytigambcefdeaoaa
open Go.RowKit

set_option maxRecDepth 100000 in
set_option maxHeartbeats 2000000 in
theorem irVO_30 (w : World) (F : Nat → Prop) (SA KA : Option Addr) (sc kc kl : Nat) (imm : Int) (s : List Int) (hs : Ints w F SA s) (hn : s.length ≤ 100000000000) (hsc : s.length ≤ sc) :
    Calls Try.prog 76 #[.agg #[.int .i64 30, .int .i64 imm, .slice KA kl kc], .slice SA s.length sc] w fun e w' => e = .returned (.bool (validOpsF 30 s)) ∧ Upd Non w w' := by
  have C0 := fun w0 => Lib.hid (irArity_c 30 w0)
  simp only [show arityF 30 = (-1, true) from rfl] at C0
  have hs1 := hs.upd (Upd.refl.alloc (.cells #[.int .i64 30, .int .i64 imm, .slice KA kl kc] 24) (S := Non)) (fun _ _ _ f => f)
  have hu1 : Upd Non w (w.alloc (.cells #[.int .i64 30, .int .i64 imm, .slice KA kl kc] 24)) := Upd.refl.alloc _
  have hb1 := Blk.new w 24 #[.int .i64 30, .int .i64 imm, .slice KA kl kc]
  generalize HW : w.alloc (.cells #[.int .i64 30, .int .i64 imm, .slice KA kl kc] 24) = W at *
  have cw0 := hb1.cell 0
  have HV : Hid (validOpsF 30 s = decide (1 ≤ s.length ∧ s.length ≤ 7 ∧ s.getD 0 0 = 2 ∧ allOne (s.drop 1) = true)) := rfl
  by_cases h1 : s.length < 1
  · go_enter Try.func76, Try.ntmps76
    go_wp2_with (go_at_call 79; refine (C0 W).out.mono ?_; rintro e w' ⟨rfl, rfl⟩)
    go_ret
    exact ⟨by rw [HV.out]; simp; omega, hu1⟩
  by_cases h7 : 7 < s.length
  · go_enter Try.func76, Try.ntmps76
    go_wp2_with (go_at_call 79; refine (C0 W).out.mono ?_; rintro e w' ⟨rfl, rfl⟩)
    go_ret
    exact ⟨by rw [HV.out]; simp; omega, hu1⟩
  obtain ⟨sb, so, rfl, _, hsb, hcs⟩ := hs1.at_ (k := 0) (by omega)
  rw [Nat.add_zero] at hcs
  have HD : Hid (s.getD 0 0 = s[0]'(by omega)) := getD_lt (by omega)
  rw [HD.out] at HV
  have hall : ∀ j (hj : j < s.length), W.cell? ⟨sb, so + j, none⟩ = some (.int .i64 s[j]) := fun j hj => by
    obtain ⟨b, o, e, _, _, hc⟩ := hs1.at_ (k := j) hj
    injection e with e; injection e with e1 e2; subst e1; subst e2
    exact hc
  have HALL := Lib.hid hall
  clear hall
  by_cases h2 : s[0]'(by omega) = 2
  · rw [h2] at hcs
    have HV2 : Hid (validOpsF 30 s = allOne (s.drop 1)) := by
      show _ = _
      rw [HV.out, h2]
      have a1 : 1 ≤ s.length := by omega
      have a2 : s.length ≤ 7 := by omega
      simp [a1, a2]
    clear HV HD h2
    go_enter Try.func76, Try.ntmps76
    go_wp2_with (go_at_call 79; refine (C0 W).out.mono ?_; rintro e w' ⟨rfl, rfl⟩)
    · go_loopg [8, 74] (s.length - 1) (fun g _ i wr => ∃ k : Nat, Hid (g = s.length - 1 - k) ∧ k ≤ s.length - 1 ∧ i = .int .i64 k ∧ Hid (allOne ((s.drop 1).take k) = true) ∧ W = wr)
      case atStart => exact ⟨0, rfl, by omega, rfl, rfl, rfl⟩
      case round =>
        obtain ⟨k, Hg, hk, rfl, Hp, rfl⟩ := hrel
        obtain rfl : s.length - 1 = k := by omega
        have : allOne (s.drop 1) = true := by
          have := Hp.out
          rwa [List.take_of_length_le (by simp)] at this
        go_wp2_with fail
        go_ret
        exact ⟨by rw [HV2.out, this]; rfl, hu1⟩
    · go_loopg [8, 74] (s.length - 1) (fun g _ i wr => ∃ k : Nat, Hid (g = s.length - 1 - k) ∧ k ≤ s.length - 1 ∧ i = .int .i64 k ∧ Hid (allOne ((s.drop 1).take k) = true) ∧ W = wr)
      case atStart => exact ⟨0, rfl, by omega, rfl, rfl, rfl⟩
      case round =>
        obtain ⟨k, Hg, hk, rfl, Hp, rfl⟩ := hrel
        by_cases hlt : k < s.length - 1
        · have hc := HALL.out (k + 1) (by omega)
          rw [show so + (k + 1) = so + 1 + k by omega] at hc
          have hkd : k < (s.drop 1).length := by simp; omega
          have HT : Hid (allOne ((s.drop 1).take (k + 1)) = decide (s[k + 1]'(by omega) = 1)) := by
            show _ = _
            have := Hp.out
            unfold allOne at this ⊢
            rw [List.take_succ_eq_append_getElem hkd, List.all_append, this]
            simp
          have HNE : Hid (s[k + 1]'(by omega) ≠ 1 → allOne (s.drop 1) = false) := by
            intro h
            unfold allOne
            rw [List.all_eq_false]
            exact ⟨(s.drop 1)[k], List.getElem_mem hkd, by simpa using h⟩
          generalize s[k + 1]'(by omega) = x at *
          by_cases he : x = 1
          · subst he
            go_wp2_with fail
            go_roundg (s.length - 1 - (k + 1))
            case measure => rw [Hg.out]; omega
            case rel => exact ⟨k + 1, rfl, by omega, by go_num, by show _ = _; rw [HT.out]; rfl, rfl⟩
          · have hf := Lib.hid (HNE.out he)
            have hb : (x != 1) = true := by simp [he]
            clear he
            go_wp2_with fail
            go_ret
            exact ⟨by rw [HV2.out, hf.out]; rfl, hu1⟩
        · obtain rfl : s.length - 1 = k := by omega
          have : allOne (s.drop 1) = true := by
            have := Hp.out
            rwa [List.take_of_length_le (by simp)] at this
          go_wp2_with fail
          go_ret
          exact ⟨by rw [HV2.out, this]; rfl, hu1⟩
  · have hd : (s[0]'(by omega) != 2) = true := by simpa using h2
    generalize s[0]'(by omega) = x at *
    clear HD
    go_enter Try.func76, Try.ntmps76
    go_wp2_with (go_at_call 79; refine (C0 W).out.mono ?_; rintro e w' ⟨rfl, rfl⟩)
    go_ret
    exact ⟨by rw [HV.out]; simp [h2], hu1⟩

end Go.Proofs.Ytigambcefdeaoaa

namespace Go.Proofs.Ytigambcefdeaoaa
open Go.RowKit

set_option maxRecDepth 100000 in
set_option maxHeartbeats 2000000 in
theorem irVO_22 (w : World) (F : Nat → Prop) (SA KA : Option Addr) (sc kc kl : Nat) (imm : Int) (s : List Int) (hs : Ints w F SA s) (hn : s.length ≤ 100000000000) (hsc : s.length ≤ sc) (h3 : s.length = 3) (h2 : s.getD 1 0 = 2) :
    Calls Try.prog 76 #[.agg #[.int .i64 22, .int .i64 imm, .slice KA kl kc], .slice SA s.length sc] w fun e w' => e = .returned (.bool (validOpsF 22 s)) ∧ Upd Non w w' := by
  have C0 := fun w0 => Lib.hid (irArity_c 22 w0)
  simp only [show arityF 22 = (3, true) from rfl] at C0
  have hs1 := hs.upd (Upd.refl.alloc (.cells #[.int .i64 22, .int .i64 imm, .slice KA kl kc] 24) (S := Non)) (fun _ _ _ f => f)
  have hu1 : Upd Non w (w.alloc (.cells #[.int .i64 22, .int .i64 imm, .slice KA kl kc] 24)) := Upd.refl.alloc _
  have hb1 := Blk.new w 24 #[.int .i64 22, .int .i64 imm, .slice KA kl kc]
  generalize HW : w.alloc (.cells #[.int .i64 22, .int .i64 imm, .slice KA kl kc] 24) = W at *
  have cw0 := hb1.cell 0
  have HV : Hid (validOpsF 22 s = decide (s.getD 0 0 = 1 ∧ s.getD 2 0 = 2)) := by
    show _ = _
    unfold validOpsF
    rw [if_neg (by rw [h3]; decide), if_neg (by decide), if_neg (by decide), if_pos ⟨rfl, h2⟩]
  obtain ⟨x, y, z, rfl⟩ := len3 h3
  obtain rfl : 2 = y := h2.symm
  obtain ⟨sb, so, rfl, _, hsb, hc0⟩ := hs1.at_ (k := 0) (by simp)
  have hc1 : W.cell? ⟨sb, so + 1, none⟩ = some (.int .i64 2) := by
    obtain ⟨b, o, e, _, _, hc⟩ := hs1.at_ (k := 1) (by simp)
    injection e with e; injection e with e1 e2; subst e1; subst e2
    exact hc
  have hc2 : W.cell? ⟨sb, so + 2, none⟩ = some (.int .i64 z) := by
    obtain ⟨b, o, e, _, _, hc⟩ := hs1.at_ (k := 2) (by simp)
    injection e with e; injection e with e1 e2; subst e1; subst e2
    exact hc
  replace hc0 : W.cell? ⟨sb, so, none⟩ = some (.int .i64 x) := hc0
  clear h2 h3
  have HV2 : Hid (validOpsF 22 [x, 2, z] = (decide (x = 1) && decide (z = 2))) := by
    show _ = _
    rw [HV.out]
    simp
  clear HV hs hs1
  go_enter Try.func76, Try.ntmps76
  go_wp2_with (go_at_call 79; refine (C0 W).out.mono ?_; rintro e w' ⟨rfl, rfl⟩)
  all_goals
    go_ret
    refine ⟨?_, hu1⟩
    rw [HV2.out]
    simp_all
    try (rw [Bool.eq_iff_iff]; simp)

end Go.Proofs.Ytigambcefdeaoaa

namespace Go.Proofs.Ytigambcefdeaoaa
open Go.RowKit

set_option maxRecDepth 100000 in
set_option maxHeartbeats 2000000 in
theorem irVO_else (w : World) (F : Nat → Prop) (SA KA : Option Addr) (sc kc kl : Nat) (op : Int) (imm : Int) (s : List Int) (hs : Ints w F SA s) (hn : s.length ≤ 100000000000) (_hsc : s.length ≤ sc) (hok0 : (arityF op).2 = true) (har0 : (arityF op).1 = s.length) (h31 : op ≠ 31) (h30 : op ≠ 30) (h22 : ¬ (op = 22 ∧ s.getD 1 0 = 2)) (hlen : s.length ≤ (opSortsF op).length) (hl22 : op = 22 → s.length = 3) :
    Calls Try.prog 76 #[.agg #[.int .i64 op, .int .i64 imm, .slice KA kl kc], .slice SA s.length sc] w fun e w' => e = .returned (.bool (validOpsF op s)) ∧ Upd Non w w' := by
  have C0 := fun w0 => Lib.hid (irArity_c op w0)
  simp only [hok0, har0] at C0
  have hs1 := hs.upd (Upd.refl.alloc (.cells #[.int .i64 op, .int .i64 imm, .slice KA kl kc] 24) (S := Non)) (fun _ _ _ f => f)
  have hu1 : Upd Non w (w.alloc (.cells #[.int .i64 op, .int .i64 imm, .slice KA kl kc] 24)) := Upd.refl.alloc _
  have hb1 := Blk.new w 24 #[.int .i64 op, .int .i64 imm, .slice KA kl kc]
  generalize HW : w.alloc (.cells #[.int .i64 op, .int .i64 imm, .slice KA kl kc] 24) = W at *
  have cw0 := hb1.cell 0
  have HV : Hid (validOpsF op s = matchF s (opSortsF op)) := by
    show _ = _
    unfold validOpsF
    rw [if_neg (by rw [hok0, har0]; simp), if_neg h31, if_neg h30, if_neg h22]
  have eb : ((s.length : Int) != (s.length : Int)) = false := by simp
  have b31 : (op == 31) = false := by simpa using h31
  have b30 : (op == 30) = false := by simpa using h30
  clear hok0 har0
  have C1 := Lib.hid (irOperandSorts_c op W)
  obtain ⟨ws, Hws⟩ := nm (opSortsF op)
  rw [Hws.out] at C1 HV hlen
  have C2 := fun w2 A2 c2 (hi2 : Ints w2 (fun _ => True) A2 ws) hu2 => Lib.hid (irMatch_c w2 F (fun _ => True) SA A2 sc c2 s ws (hs1.upd (S := Non) (w' := w2) hu2 (fun _ _ _ f => f)) hi2 (by omega) (by omega))
  by_cases hop : op = 22
  · subst hop
    have h3 : 1 < s.length := by have := hl22 rfl; omega
    have hne : s.getD 1 0 ≠ 2 := fun h => h22 ⟨rfl, h⟩
    rw [getD_lt (by omega)] at hne
    obtain ⟨sb, so, rfl, _, hsb, hc1⟩ := hs1.at_ (k := 1) (by omega)
    have hb : (s[1] == 2) = false := by simpa using hne
    generalize s[1] = y at *
    clear hl22 h22 hne
    go_enter Try.func76, Try.ntmps76
    go_wp2_with (go_at_call 79; refine (C0 W).out.mono ?_; rintro e w' ⟨rfl, rfl⟩)
    refine C1.out.mono ?_
    rintro e w2 ⟨A2, c2, rfl, hi2, hu2⟩
    go_wp2_with fail
    refine (C2 w2 A2 c2 hi2 hu2).out.mono ?_
    rintro e w3 ⟨rfl, hu3⟩
    go_wp2_with fail
    go_ret
    exact ⟨by rw [HV.out]; rfl, (hu1.then_non hu2).then_non hu3⟩
  · have b22 : (op == 22) = false := by simpa using hop
    clear hl22 h22
    go_enter Try.func76, Try.ntmps76
    go_wp2_with (go_at_call 79; refine (C0 W).out.mono ?_; rintro e w' ⟨rfl, rfl⟩)
    refine C1.out.mono ?_
    rintro e w2 ⟨A2, c2, rfl, hi2, hu2⟩
    go_wp2_with fail
    refine (C2 w2 A2 c2 hi2 hu2).out.mono ?_
    rintro e w3 ⟨rfl, hu3⟩
    go_wp2_with fail
    go_ret
    exact ⟨by rw [HV.out]; rfl, (hu1.then_non hu2).then_non hu3⟩

end Go.Proofs.Ytigambcefdeaoaa

namespace Go.Proofs.Ytigambcefdeaoaa
open Go.RowKit

theorem irValidOps_c (w : World) (F : Nat → Prop) (SA KA : Option Addr) (sc kc kl : Nat) (op imm : Int) (s : List Int) (hs : Ints w F SA s) (hn : s.length ≤ 100000000000) (hsc : s.length ≤ sc) :
    Calls Try.prog 76 #[.agg #[.int .i64 op, .int .i64 imm, .slice KA kl kc], .slice SA s.length sc] w fun e w' => e = .returned (.bool (validOpsF op s)) ∧ Upd Non w w' := by
  by_cases hbad : (arityF op).2 = false ∨ (0 ≤ (arityF op).1 ∧ (arityF op).1 ≠ s.length)
  · exact irVO_bad w F SA KA sc kc kl op imm s hs hn hsc hbad
  by_cases h31 : op = 31
  · subst h31; exact irVO_31 w F SA KA sc kc kl imm s hs hn hsc
  by_cases h30 : op = 30
  · subst h30; exact irVO_30 w F SA KA sc kc kl imm s hs hn hsc
  have hok : (arityF op).2 = true := by
    cases h : (arityF op).2
    · exact absurd (.inl h) hbad
    · rfl
  have h0 : 0 ≤ (arityF op).1 := by
    unfold arityF at hok ⊢
    (repeat' split) <;> first | omega | simp_all
  have har : (arityF op).1 = s.length := Decidable.byContradiction fun hne => hbad (.inr ⟨h0, hne⟩)
  have hl22 : op = 22 → s.length = 3 := by
    rintro rfl
    have : (3 : Int) = s.length := har
    omega
  by_cases h22 : op = 22 ∧ s.getD 1 0 = 2
  · obtain ⟨rfl, h2⟩ := h22
    exact irVO_22 w F SA KA sc kc kl imm s hs hn hsc (hl22 rfl) h2
  have hlen : s.length ≤ (opSortsF op).length := by
    have := har
    unfold arityF at this
    unfold opSortsF
    (repeat' split at this) <;> simp at this <;> (repeat' split) <;> first | (simp; omega) | (exfalso; omega)
  exact irVO_else w F SA KA sc kc kl op imm s hs hn hsc hok har h31 h30 h22 hlen hl22
end Go.Proofs.Ytigambcefdeaoaa
