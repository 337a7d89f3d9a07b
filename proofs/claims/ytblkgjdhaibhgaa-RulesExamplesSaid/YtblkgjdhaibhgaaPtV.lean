/-
  append to a slice without spare capacity: the cells lie in a new block. No condition of its own.
  What the small functions on numbers do: Pick, Word, Arity, maxImm, ValidImm, Sort and OperandSort of patterns, sortIf, allValues.
  What keep.Word does.
  Patterns as they lie in memory; what pattern.Size does.
  Patterns that the code makes: their operands in a block of their own. No condition of its own.
  What the reader's Next does.
-/
import Derived.Test.YtblkgjdhaibhgaaBase
import Derived.Laws.AppendOwn
import Derived.Test.YtblkgjdhaibhgaaProg
import Derived.StillTailTactics
namespace Go.Proofs.Ytblkgjdhaibhgaa
open Go.RowKit

theorem run_app_full {P : Program} {w : World} {F F2 : Nat → Prop} {t ty e : TypeId} {size bytes : Nat} (T : SlT P t e size bytes) {A : Option Addr} {n : Nat} {cs : List Value} (h : Sl w F A cs) (hlo : cs.length = n * size) (hA : A = none → n = 0)
    {A2 : Option Addr} {m c2 : Nat} {news : List Value} (hr : Sl w F2 A2 news) (hl : news.length = m * size) (hm0 : 0 < m) (h63 : n + m ≤ maxLen) (hb : (n + m) * bytes ≤ 140737488355328) :
    ∃ c' w', (Builtin.append_ #[t, t] ty #[.slice A n n, .slice A2 m c2]).run P w = .ok (.slice (some ⟨w.heap.size, 0, none⟩) (n + m) c') w' ∧ Own w' e size (some ⟨w.heap.size, 0, none⟩) (n + m) c' (cs ++ news) ∧ Upd Non w w' := by
  obtain ⟨ht, ⟨i, z, hi, hz, hsz, hby, hzs⟩, hpos⟩ := T
  subst hsz; subst hby
  have hsmall : n + m ≤ 9223372036854775807 := by simp only [maxLen] at h63; omega
  have hlen : (cs ++ news).length = (n + m) * i.size := by rw [List.length_append, hlo, hl, Nat.add_mul]
  obtain ⟨a, rfl, hnews⟩ : ∃ a, A2 = some a ∧ ∀ j u, news[j]? = some u → w.cell? (a.add j) = some u := by
    rcases hr with hr | ⟨b, off, rfl, _, hc⟩
    · subst hr
      have : m * i.size = 0 := by simpa using hl.symm
      rcases Nat.mul_eq_zero.1 this with h0 | h0 <;> omega
    · refine ⟨_, rfl, fun j u hu => ?_⟩
      obtain ⟨hj, rfl⟩ := List.getElem?_eq_some_iff.1 hu
      rw [Addr.add_lit]
      exact hc j hj
  have grown : ∀ (old : Nat), old < n + m →
      Own (w.drew.alloc (.cells (cs.toArray ++ news.toArray ++ Builtin.zeroCells z.cells (grownCap w (n + m) old e - (n + m))) e)) e i.size (some ⟨w.heap.size, 0, none⟩) (n + m) (grownCap w (n + m) old e) (cs ++ news) ∧
      Upd Non w (w.drew.alloc (.cells (cs.toArray ++ news.toArray ++ Builtin.zeroCells z.cells (grownCap w (n + m) old e - (n + m))) e)) := by
    intro old ho
    have hge := grownCap_ge w (n + m) old e
    have hcm : grownCap w (n + m) old e ≤ maxLen := grownCap_le_maxLen w (n + m) old e h63
    refine ⟨Own.mk_ (heap_alloc_new w.drew _) hge hcm ?_ ?_, Upd.refl.drew.alloc _⟩
    · simp only [Array.size_append, List.size_toArray, size_zeroCells, hzs, hlo, hl, ← Nat.add_mul]
      congr 1
      omega
    · simp only [Array.toList_append, List.append_assoc]
      rw [← List.append_assoc, ← hlen]
      exact List.take_left
  cases A with
  | none =>
    obtain rfl := hA rfl
    have hx : cs = [] := List.eq_nil_of_length_eq_zero (by simpa using hlo)
    subst hx
    have hr := run_append_nil (P := P) w t ty e i z ht hi hz a m c2 news hl hnews (by omega) (by omega) (by simp only [Nat.zero_add] at hb; omega)
    have hgr := grown 0 (by omega)
    simp only [Nat.zero_add, List.nil_append, Array.empty_append] at hgr ⊢
    exact ⟨_, _, hr, hgr.1, hgr.2⟩
  | some b =>
    have holds : ∀ j u, cs[j]? = some u → w.cell? (b.add j) = some u := by
      intro j u hu
      obtain ⟨hj, rfl⟩ := List.getElem?_eq_some_iff.1 hu
      rcases h with h | ⟨b', off, e1, _, hc⟩
      · subst h; simp at hj
      · injection e1 with e1; subst e1
        rw [Addr.add_lit]
        exact hc j hj
    have hr := run_append_grow (P := P) w t ty e i z ht hi hz b n n cs hlo holds a m c2 news hl hnews (by omega) (by omega) (growslice_fits (by omega) hb)
    have hgr := grown n (by omega)
    exact ⟨_, _, hr, hgr.1, hgr.2⟩

theorem step_app_full {P : Program} {w : World} {ops : Array Oper} {o : Oper} {a : Act} {K : Act → World → Prop} {Q : Exit → Act → World → Prop} {E : Prop} (hgd : o.guard = none) {s x : Operand} {t : TypeId}
    (ho : o.op = .call { callee := .builtin .append, args := #[s, x], argTypes := #[t, t] }) {F F2 : Nat → Prop} {e : TypeId} {size bytes : Nat} (T : SlT P t e size bytes) {A : Option Addr} {n : Nat} {cs : List Value} (hs : a.eval s = .slice A n n) (h : Sl w F A cs) (hlo : cs.length = n * size) (hA : A = none → n = 0)
    {A2 : Option Addr} {m c2 : Nat} {news : List Value} (hx : a.eval x = .slice A2 m c2) (hr : Sl w F2 A2 news) (hl : news.length = m * size) (hm0 : 0 < m) (h63 : n + m ≤ maxLen) (hb : (n + m) * bytes ≤ 140737488355328)
    (k : ∀ c' w', Own w' e size (some ⟨w.heap.size, 0, none⟩) (n + m) c' (cs ++ news) → Upd Non w w' → K (a.put o.dst (.slice (some ⟨w.heap.size, 0, none⟩) (n + m) c')) w') :
    if Region.wanted o (yielded ops a.tmps) = true then Oper.wp P o a w K Q else E := by
  have hw : Region.wanted o (yielded ops a.tmps) = true := by simp [Region.wanted, hgd]
  rw [if_pos hw]
  obtain ⟨c', w', hrun, h2, h3⟩ := run_app_full (P := P) (ty := o.type) (c2 := c2) T h hlo hA hr hl hm0 h63 hb
  unfold Oper.wp execOp
  simp only [ho, resolve, invoke, builtin, Sem.run_bind, Sem.run_pure, Result.andThen_ok, List.map_toArray, List.map_cons, List.map_nil, hs, hx, hrun]
  exact k c' w' h2 h3
theorem wpList_app_full {P : Program} {w : World} {ops : Array Oper} {rest : List Oper} {o : Oper} {a : Act} {Q : Exit → Act → World → Prop} (hgd : o.guard = none) {s x : Operand} {t : TypeId}
    (ho : o.op = .call { callee := .builtin .append, args := #[s, x], argTypes := #[t, t] }) {F F2 : Nat → Prop} {e : TypeId} {size bytes : Nat} (T : SlT P t e size bytes) {A : Option Addr} {n : Nat} {cs : List Value} (hs : a.eval s = .slice A n n) (h : Sl w F A cs) (hlo : cs.length = n * size) (hA : A = none → n = 0)
    {A2 : Option Addr} {m c2 : Nat} {news : List Value} (hx : a.eval x = .slice A2 m c2) (hr : Sl w F2 A2 news) (hl : news.length = m * size) (hm0 : 0 < m) (h63 : n + m ≤ maxLen) (hb : (n + m) * bytes ≤ 140737488355328)
    (k : ∀ c' w', Own w' e size (some ⟨w.heap.size, 0, none⟩) (n + m) c' (cs ++ news) → Upd Non w w' → wpList P ops Q rest (a.put o.dst (.slice (some ⟨w.heap.size, 0, none⟩) (n + m) c')) w') : wpList P ops Q (o :: rest) a w :=
  wpList_plain hgd fun K hK => by
    obtain ⟨c', w', hrun, h2, h3⟩ := run_app_full (P := P) (ty := o.type) (c2 := c2) T h hlo hA hr hl hm0 h63 hb
    unfold Oper.wp execOp
    simp only [ho, resolve, invoke, builtin, Sem.run_bind, Sem.run_pure, Result.andThen_ok, List.map_toArray, List.map_cons, List.map_nil, hs, hx, hrun]
    exact hK _ _ (k c' w' h2 h3)
end Go.Proofs.Ytblkgjdhaibhgaa

namespace Go.Proofs.Ytblkgjdhaibhgaa
open Go.RowKit

theorem ret_bool {p q : Prop} [Decidable p] [Decidable q] (h : p ↔ q) : Ending.returned (.bool (decide p)) = .returned (.bool (decide q)) := by simp [h]

set_option maxHeartbeats 400000 in
theorem pick_c (n m : Int) (w : World) (hm : 0 < m) (hm2 : m ≤ 4611686018427387904) :
    Calls Try.prog 11 #[.int .i64 n, .int .i64 m] w fun e w' => e = .returned (.int .i64 (n % m)) ∧ w = w' := by
  have H1 := Lib.hid (tmod_pick n m hm)
  have h2 := Int.tmod_lt_of_pos n hm
  have h3 := Int.lt_tmod_of_pos n hm
  by_cases ht : n.tmod m < 0
  · have H2 : Hid (n % m = n.tmod m + m) := by show _ = _; rw [H1.out, if_pos ht]
    go_enter Try.func11, Try.ntmps11
    go_wp2_with fail
    go_ret
    exact ⟨by rw [H2.out]; rfl, rfl⟩
  · have H2 : Hid (n % m = n.tmod m) := by show _ = _; rw [H1.out, if_neg ht]
    go_enter Try.func11, Try.ntmps11
    go_wp2_with fail
    go_ret
    exact ⟨by rw [H2.out]; rfl, rfl⟩

set_option maxHeartbeats 1000000 in
theorem arity_c (op : Int) (w : World) : Calls Try.prog 56 #[.int .i64 op] w fun e w' => e = .returned (.tuple #[.int .i64 (arityF op).1, .bool (arityF op).2]) ∧ w = w' := by
  go_enter Try.func56, Try.ntmps56
  go_wp2
  all_goals
    go_ret2
    refine ⟨?_, rfl⟩
    (try simp only [beq_iff_eq, beq_eq_false_iff_ne, ne_eq] at *)
    unfold arityF
    (repeat' split) <;> first | rfl | (exfalso; omega)

set_option maxHeartbeats 1000000 in
theorem maxImm_c (op : Int) (w : World) : Calls Try.prog 77 #[.int .i64 op] w fun e w' => e = .returned (.int .i64 (maxImmF op)) ∧ w = w' := by
  go_enter Try.func77, Try.ntmps77
  go_wp2
  all_goals
    go_ret
    refine ⟨?_, rfl⟩
    (try simp only [beq_iff_eq, beq_eq_false_iff_ne, ne_eq] at *)
    unfold maxImmF
    (repeat' split) <;> first | rfl | (exfalso; omega)

set_option maxHeartbeats 1000000 in
theorem validImm_c (op n : Int) (w : World) : Calls Try.prog 60 #[.int .i64 op, .int .i64 n] w fun e w' => e = .returned (.bool (validImmF op n)) ∧ w = w' := by
  obtain ⟨m, Hm⟩ : ∃ m, Hid (maxImmF op = m) := ⟨_, rfl⟩
  have Hv : Hid (validImmF op n = if op = 1 then true else if m < 0 then decide (n = 0) else decide (0 ≤ n ∧ n ≤ m ∧ (op ≠ 27 ∨ 0 < n))) := by show _ = _; unfold validImmF; rw [Hm.out]
  have C1 := Lib.hid (maxImm_c op w)
  rw [Hm.out] at C1
  go_enter Try.func60, Try.ntmps60
  go_wp2_with (go_at_call 77; refine C1.out.mono ?_; rintro e w' ⟨rfl, rfl⟩)
  all_goals
    go_ret
    refine ⟨?_, rfl⟩
    rw [Hv.out]
    (try simp only [beq_iff_eq, beq_eq_false_iff_ne, ne_eq] at *)
    (repeat' split) <;> first | rfl | (exfalso; omega) | (simp; omega) | exact ret_bool (by omega)

set_option maxHeartbeats 1000000 in
theorem pSort_c (op : Int) (w : World) : Calls Try.prog 31 #[.int .i64 op] w fun e w' => e = .returned (.int .i64 (pSortF op)) ∧ w = w' := by
  go_enter Try.func31, Try.ntmps31
  go_wp2
  all_goals
    go_ret
    refine ⟨?_, rfl⟩
    (try simp only [beq_iff_eq, beq_eq_false_iff_ne, ne_eq] at *)
    unfold pSortF
    (repeat' split) <;> first | rfl | (exfalso; omega)

set_option maxHeartbeats 1000000 in
theorem operandSort_c (op k : Int) (w : World) : Calls Try.prog 57 #[.int .i64 op, .int .i64 k] w fun e w' => e = .returned (.int .i64 (operandSortF op k)) ∧ w = w' := by
  obtain ⟨m, Hm⟩ : ∃ m, Hid (pSortF op = m) := ⟨_, rfl⟩
  have Hv : Hid (operandSortF op k = if k = 0 ∧ (m = 2 ∨ op = 23 ∨ op = 24) then 2 else 1) := by show _ = _; unfold operandSortF; rw [Hm.out]
  have C1 := Lib.hid (pSort_c op w)
  rw [Hm.out] at C1
  go_enter Try.func57, Try.ntmps57
  go_wp2_with (go_at_call 31; refine C1.out.mono ?_; rintro e w' ⟨rfl, rfl⟩)
  all_goals
    go_ret
    refine ⟨?_, rfl⟩
    rw [Hv.out]
    (try simp only [beq_iff_eq, beq_eq_false_iff_ne, ne_eq] at *)
    (repeat' split) <;> first | rfl | (exfalso; omega)


end Go.Proofs.Ytblkgjdhaibhgaa

namespace Go.Proofs.Ytblkgjdhaibhgaa
open Go.RowKit

theorem edges_get {k : Nat} (hk : k = 0 ∨ k = 1 ∨ k = 2 ∨ k = 3 ∨ k = 4 ∨ k = 5 ∨ k = 6 ∨ k = 7 ∨ k = 8 ∨ k = 9) {h : k < [Value.int IntKind.i64 0, Value.int IntKind.i64 1, Value.int IntKind.i64 (-1), Value.int IntKind.i64 2, Value.int IntKind.i64 (-9223372036854775808), Value.int IntKind.i64 9223372036854775807, Value.int IntKind.i64 4294967296, Value.int IntKind.i64 (-2147483648), Value.int IntKind.i64 63, Value.int IntKind.i64 64].length} :
    [Value.int IntKind.i64 0, Value.int IntKind.i64 1, Value.int IntKind.i64 (-1), Value.int IntKind.i64 2, Value.int IntKind.i64 (-9223372036854775808), Value.int IntKind.i64 9223372036854775807, Value.int IntKind.i64 4294967296, Value.int IntKind.i64 (-2147483648), Value.int IntKind.i64 63, Value.int IntKind.i64 64][k] = Value.int .i64 (edgesF.getD k 0) := by
  rcases hk with rfl | rfl | rfl | rfl | rfl | rfl | rfl | rfl | rfl | rfl <;> simp [edgesF]
theorem wrap64_of {x : Int} (h : I64 x) : wrap64 x = x := by unfold wrap64; unfold I64 at h; omega

set_option maxHeartbeats 1000000 in
theorem word_c (w : World) (n raw : Int) (hn : I64 n) : Calls Try.prog 27 #[.int .i64 n, .int .i64 raw] w fun e w' => e = .returned (.int .i64 (wordF n raw)) ∧ Upd Non w w' := by
  have hm1 := Int.emod_nonneg n (show (24 : Int) ≠ 0 by omega)
  have hm2 := Int.emod_lt_of_pos n (show (0 : Int) < 24 by omega)
  have HW : Hid (wordF n raw = if n % 24 < 10 then edgesF.getD (n % 24).toNat 0 else if n % 24 < 22 then (n.tdiv 24) % 17 - 6 else raw) := rfl
  have C1 := fun (W : World) => pick_c n 24 W (by omega) (by omega)
  obtain ⟨q, Hq⟩ : ∃ q, Hid (n % 24 = q) := nm _
  rw [Hq.out] at hm1 hm2 HW
  obtain ⟨k, rfl⟩ := Int.eq_ofNat_of_zero_le hm1
  simp only [Hq.out] at C1
  have C1 := Lib.hid C1
  by_cases h1 : k < 10
  · have HW2 : Hid (wordF n raw = edgesF.getD k 0) := by show _ = _; rw [HW.out, if_pos (by omega)]; simp
    go_enter Try.func27, Try.ntmps27
    go_wp2_with fail
    refine (C1.out _).mono ?_
    rintro e w2 ⟨rfl, rfl⟩
    have hk : k = 0 ∨ k = 1 ∨ k = 2 ∨ k = 3 ∨ k = 4 ∨ k = 5 ∨ k = 6 ∨ k = 7 ∨ k = 8 ∨ k = 9 := by omega
    clear HW C1 hm1 hm2 Hq
    go_wp2_with fail
    go_ret
    refine ⟨?_, Upd.refl.alloc _⟩
    rw [HW2.out]
    exact congrArg (fun x => Ending.returned x) (edges_get hk)
  · by_cases h2 : k < 22
    · have HW2 : Hid (wordF n raw = (n.tdiv 24) % 17 - 6) := by show _ = _; rw [HW.out, if_neg (by omega), if_pos (by omega)]
      have m1 := Int.emod_nonneg (n.tdiv 24) (show (17 : Int) ≠ 0 by omega)
      have m2 := Int.emod_lt_of_pos (n.tdiv 24) (show (0 : Int) < 17 by omega)
      have C2 := Lib.hid (fun (W : World) => pick_c (n.tdiv 24) 17 W (by omega) (by omega))
      have e1 : wrap64 (n.tdiv 24) = n.tdiv 24 := wrap64_of (hn.tdiv 24 (by omega))
      generalize (n.tdiv 24) % 17 = x at *
      go_enter Try.func27, Try.ntmps27
      go_wp2_with fail
      refine (C1.out _).mono ?_
      rintro e w2 ⟨rfl, rfl⟩
      clear HW C1 Hq
      go_wp2_with fail
      refine (C2.out _).mono ?_
      rintro e w2 ⟨rfl, rfl⟩
      go_wp2_with fail
      go_ret
      exact ⟨by rw [HW2.out]; rfl, Upd.refl.alloc _⟩
    · have HW2 : Hid (wordF n raw = raw) := by show _ = _; rw [HW.out, if_neg (by omega), if_neg (by omega)]
      go_enter Try.func27, Try.ntmps27
      go_wp2_with fail
      refine (C1.out _).mono ?_
      rintro e w2 ⟨rfl, rfl⟩
      clear HW C1 Hq
      go_wp2_with fail
      go_ret
      exact ⟨by rw [HW2.out]; rfl, Upd.refl.alloc _⟩
end Go.Proofs.Ytblkgjdhaibhgaa

namespace Go.Proofs.Ytblkgjdhaibhgaa
open Go.RowKit

/-- A pattern: variable, operation, immediate operand, immediate variable, operands. -/
inductive Pt where
  | mk (v op imm iv : Int) (kids : List Pt)
def Pt.v : Pt → Int | .mk v _ _ _ _ => v
def Pt.op : Pt → Int | .mk _ op _ _ _ => op
def Pt.imm : Pt → Int | .mk _ _ imm _ _ => imm
def Pt.iv : Pt → Int | .mk _ _ _ iv _ => iv
def Pt.kids : Pt → List Pt | .mk _ _ _ _ kids => kids
mutual
def Pt.size : Pt → Nat
  | .mk _ _ _ _ kids => 1 + Pt.sizeL kids
def Pt.sizeL : List Pt → Nat
  | [] => 0
  | k :: ks => k.size + Pt.sizeL ks
end
theorem Pt.size_eq (p : Pt) : p.size = 1 + Pt.sizeL p.kids := by cases p; simp only [Pt.size, Pt.kids]
theorem Pt.sizeL_take : ∀ (l : List Pt) (k : Nat) (h : k < l.length), Pt.sizeL (l.take (k + 1)) = Pt.sizeL (l.take k) + l[k].size
  | [], k, h => absurd h (by simp)
  | a :: l, 0, h => by simp [Pt.sizeL]
  | a :: l, k + 1, h => by
    have := Pt.sizeL_take l k (by simpa using h)
    simp only [List.take_succ_cons, Pt.sizeL, List.getElem_cons_succ]
    omega
theorem Pt.sizeL_mem {k : Pt} : ∀ {l : List Pt}, k ∈ l → k.size ≤ Pt.sizeL l
  | a :: l, h => by
    simp only [Pt.sizeL]
    rcases List.mem_cons.1 h with rfl | h
    · omega
    · have := Pt.sizeL_mem h; omega
theorem Pt.sizeL_take_le : ∀ (l : List Pt) (k : Nat), Pt.sizeL (l.take k) ≤ Pt.sizeL l
  | [], k => by simp [Pt.sizeL]
  | a :: l, 0 => by simp [Pt.sizeL]
  | a :: l, k + 1 => by have := Pt.sizeL_take_le l k; simp only [List.take_succ_cons, Pt.sizeL]; omega
theorem Pt.kids_lt {p k : Pt} (h : k ∈ p.kids) : k.size < p.size := by have := Pt.sizeL_mem h; rw [Pt.size_eq p]; omega
theorem Pt.len_le : ∀ (l : List Pt), l.length ≤ Pt.sizeL l
  | [] => by simp
  | a :: l => by have := Pt.len_le l; have := Pt.size_eq a; simp only [List.length_cons, Pt.sizeL]; omega
/-- What holds of a pattern if it holds of all smaller ones, holds of all. -/
theorem Pt.ind {Q : Pt → Prop} (h : ∀ p, (∀ k ∈ p.kids, Q k) → Q p) (p : Pt) : Q p := by
  suffices ∀ n p, Pt.size p ≤ n → Q p from this _ p (Nat.le_refl _)
  intro n
  induction n with
  | zero => intro p hp; have := Pt.size_eq p; omega
  | succ n ih => intro p hp; exact h p fun k hk => ih k (by have := Pt.kids_lt hk; omega)

mutual
/-- The operands of p lie at KA (capacity kc), in blocks of F. -/
def PtK (w : World) (F : Nat → Prop) : Pt → Option Addr → Nat → Prop
  | .mk _ _ _ _ kids, KA, kc => kids.length ≤ kc ∧ (kids = [] ∨ ∃ b o, KA = some ⟨b, o, none⟩ ∧ F b ∧ PtL w F b kids o)
/-- The patterns lie at offset o of block b. -/
def PtL (w : World) (F : Nat → Prop) (b : Nat) : List Pt → Nat → Prop
  | [], _ => True
  | k :: ks, o => (∃ KA kc, w.cell? ⟨b, o, none⟩ = some (.int .i64 k.v) ∧ w.cell? ⟨b, o + 1, none⟩ = some (.int .i64 k.op) ∧ w.cell? ⟨b, o + 2, none⟩ = some (.int .i64 k.imm) ∧ w.cell? ⟨b, o + 3, none⟩ = some (.int .i64 k.iv) ∧ w.cell? ⟨b, o + 4, none⟩ = some (.slice KA k.kids.length kc) ∧ PtK w F k KA kc) ∧ PtL w F b ks (o + 5)
end
/-- Pattern k lies at offset o of block b. -/
def PtAt (w : World) (F : Nat → Prop) (b o : Nat) (k : Pt) : Prop := ∃ KA kc, w.cell? ⟨b, o, none⟩ = some (.int .i64 k.v) ∧ w.cell? ⟨b, o + 1, none⟩ = some (.int .i64 k.op) ∧ w.cell? ⟨b, o + 2, none⟩ = some (.int .i64 k.imm) ∧ w.cell? ⟨b, o + 3, none⟩ = some (.int .i64 k.iv) ∧ w.cell? ⟨b, o + 4, none⟩ = some (.slice KA k.kids.length kc) ∧ PtK w F k KA kc
section
variable {w w' : World} {F G S : Nat → Prop}
theorem PtK.iff {p : Pt} {KA : Option Addr} {kc : Nat} : PtK w F p KA kc ↔ p.kids.length ≤ kc ∧ (p.kids = [] ∨ ∃ b o, KA = some ⟨b, o, none⟩ ∧ F b ∧ PtL w F b p.kids o) := by
  cases p; simp only [PtK, Pt.kids]
theorem PtL.iff_cons {b o : Nat} {k : Pt} {ks : List Pt} : PtL w F b (k :: ks) o ↔ PtAt w F b o k ∧ PtL w F b ks (o + 5) := by simp only [PtL, PtAt]
theorem PtL.at_ {b : Nat} : ∀ {ks : List Pt} {o i : Nat}, PtL w F b ks o → ∀ (h : i < ks.length), PtAt w F b (o + i * 5) ks[i]
  | k :: ks, o, 0, h, _ => by rw [PtL.iff_cons] at h; simpa using h.1
  | k :: ks, o, i + 1, h, hi => by
    rw [PtL.iff_cons] at h
    have := PtL.at_ (i := i) h.2 (by simpa using hi)
    rw [show o + (i + 1) * 5 = o + 5 + i * 5 by omega]
    exact this
theorem PtL.of {b : Nat} : ∀ {ks : List Pt} {o : Nat}, (∀ i (h : i < ks.length), PtAt w F b (o + i * 5) ks[i]) → PtL w F b ks o
  | [], _, _ => by simp [PtL]
  | k :: ks, o, h => by
    rw [PtL.iff_cons]
    refine ⟨by have h0 := h 0 (by simp); rw [Nat.zero_mul, Nat.add_zero] at h0; exact h0, PtL.of fun i hi => ?_⟩
    have := h (i + 1) (by simpa using hi)
    rw [show o + (i + 1) * 5 = o + 5 + i * 5 by omega] at this
    exact this
theorem PtK.at_ {p : Pt} {KA : Option Addr} {kc : Nat} (h : PtK w F p KA kc) {i : Nat} (hi : i < p.kids.length) : ∃ b o, KA = some ⟨b, o, none⟩ ∧ F b ∧ b < w.heap.size ∧ PtAt w F b (o + i * 5) p.kids[i] := by
  rcases (PtK.iff.1 h).2 with e | ⟨b, o, e, hF, hl⟩
  · rw [e] at hi; simp at hi
  · have := hl.at_ hi
    obtain ⟨_, _, h0, _⟩ := id this
    exact ⟨b, o, e, hF, World.block_lt_of_cell? _ _ h0, this⟩
theorem PtK.le {p : Pt} {KA : Option Addr} {kc : Nat} (h : PtK w F p KA kc) : p.kids.length ≤ kc := (PtK.iff.1 h).1
theorem PtK.upd (u : Upd S w w') (d : ∀ k, k < w.heap.size → F k → ¬ S k) : ∀ (p : Pt) (KA : Option Addr) (kc : Nat), PtK w F p KA kc → PtK w' F p KA kc := by
  intro p
  induction p using Pt.ind with
  | h p ih =>
    intro KA kc h
    rw [PtK.iff] at h ⊢
    refine ⟨h.1, h.2.imp_right fun ⟨b, o, e, hF, hl⟩ => ⟨b, o, e, hF, PtL.of fun i hi => ?_⟩⟩
    obtain ⟨KB, kd, h0, h1, h2, h3, h4, h5⟩ := hl.at_ hi
    have hb : ¬ S b := d b (World.block_lt_of_cell? _ _ h0) hF
    exact ⟨KB, kd, cell_upd h0 u hb, cell_upd h1 u hb, cell_upd h2 u hb, cell_upd h3 u hb, cell_upd h4 u hb, ih _ (List.getElem_mem hi) KB kd h5⟩
theorem PtK.mono (hFG : ∀ k, k < w.heap.size → F k → G k) : ∀ (p : Pt) (KA : Option Addr) (kc : Nat), PtK w F p KA kc → PtK w G p KA kc := by
  intro p
  induction p using Pt.ind with
  | h p ih =>
    intro KA kc h
    rw [PtK.iff] at h ⊢
    refine ⟨h.1, ?_⟩
    rcases h.2 with e | ⟨b, o, e, hF, hl⟩
    · exact .inl e
    · by_cases h0 : p.kids = []
      · exact .inl h0
      · have hp : 0 < p.kids.length := List.length_pos_iff.2 h0
        obtain ⟨_, _, g0, _⟩ := hl.at_ hp
        refine .inr ⟨b, o, e, hFG b (World.block_lt_of_cell? _ _ g0) hF, PtL.of fun i hi => ?_⟩
        obtain ⟨KB, kd, h0, h1, h2, h3, h4, h5⟩ := hl.at_ hi
        exact ⟨KB, kd, h0, h1, h2, h3, h4, ih _ (List.getElem_mem hi) KB kd h5⟩
end
def pv (p : Pt) (KA : Option Addr) (kc : Nat) : Value := .agg #[.int .i64 p.v, .int .i64 p.op, .int .i64 p.imm, .int .i64 p.iv, .slice KA p.kids.length kc]

set_option maxHeartbeats 1000000 in
theorem ptSize_c (p : Pt) : ∀ (w : World) (F : Nat → Prop) (KA : Option Addr) (kc : Nat), PtK w F p KA kc → p.size ≤ 1000000000000 →
    Calls Try.prog 71 #[pv p KA kc] w fun e w' => e = .returned (.int .i64 (p.size : Int)) ∧ Upd Non w w' := by
  induction p using Pt.ind with
  | h p ih =>
    intro w F KA kc hp hs
    have hse := Pt.size_eq p
    have hle := Pt.len_le p.kids
    have HI := Lib.hid ih
    obtain ⟨W, HW⟩ := nm (w.alloc (.cells #[.int .i64 p.v, .int .i64 p.op, .int .i64 p.imm, .int .i64 p.iv, .slice KA p.kids.length kc] 30))
    have hU : Upd Non w W := by rw [← HW.out]; exact Upd.refl.alloc _
    have hb : Blk W w.heap.size 30 #[.int .i64 p.v, .int .i64 p.op, .int .i64 p.imm, .int .i64 p.iv, .slice KA p.kids.length kc] := by rw [← HW.out]; exact Blk.new _ _ _
    have e0 := HW.out
    have c4 := hb.cell 4
    have hpW := PtK.upd hU (fun _ _ _ f => f) p KA kc hp
    have HS := Lib.hid hse
    unfold pv
    clear ih hse hp
    obtain ⟨n, Hn⟩ := nm p.kids.length
    rw [Hn.out] at c4 hle e0
    have hn12 : n ≤ 1000000000000 := by have := HS.out; omega
    rw [Hn.out]
    go_enter Try.func71, Try.ntmps71
    go_wp2_with fail
    go_loopg [3, 5, 9] n (fun g v _ i wr => ∃ k : Nat, Hid (g = n - k) ∧ k ≤ n ∧ i = .int .i64 k ∧ v = .int .i64 ((1 + Pt.sizeL (p.kids.take k) : Nat) : Int) ∧ Upd Non W wr)
    case atStart => exact ⟨0, rfl, by omega, rfl, by simp [Pt.sizeL], Upd.refl⟩
    case round =>
      obtain ⟨k, Hg, hk, rfl, rfl, hu⟩ := hrel
      by_cases hlt : k < n
      · have hkl : k < p.kids.length := by rw [Hn.out]; exact hlt
        obtain ⟨b, o, rfl, hF, hbw, KB, kd, h0, h1, h2, h3, h4, h5⟩ := (PtK.upd hu (fun _ _ _ f => f) p KA kc hpW).at_ hkl
        have hks : p.kids[k].size ≤ 1000000000000 := by have := Pt.kids_lt (List.getElem_mem hkl); omega
        have hkk := Pt.sizeL_take p.kids k hkl
        have hkt := Pt.sizeL_take_le p.kids (k + 1)
        have hmem0 := List.getElem_mem hkl
        generalize p.kids[k] = q at *
        obtain ⟨W3, HW3⟩ := nm (wr.alloc (.cells #[.int .i64 q.v, .int .i64 q.op, .int .i64 q.imm, .int .i64 q.iv, .slice KB q.kids.length kd] 30))
        have hq := PtK.upd (Upd.refl.alloc (S := Non) (.cells #[.int .i64 q.v, .int .i64 q.op, .int .i64 q.imm, .int .i64 q.iv, .slice KB q.kids.length kd] 30)) (fun _ _ _ f => f) q KB kd h5
        have hmem : q ∈ p.kids := by assumption
        have C1 := Lib.hid (HI.out q hmem _ F KB kd hq hks)
        unfold pv at C1
        obtain ⟨z, Hz⟩ := nm (1 + Pt.sizeL (p.kids.take k))
        have hz1 : 1 + Pt.sizeL (p.kids.take (k + 1)) = z + q.size := by rw [← Hz.out]; omega
        have HZ := Lib.hid hz1
        have hz2 : z + q.size ≤ 2000000000000 := by have := HS.out; omega
        rw [Hz.out]
        clear hkk hkt hz1 h5 hq
        go_wp2_with fail
        refine C1.out.mono ?_
        rintro e w4 ⟨rfl, hu4⟩
        go_wp2_with fail
        go_roundg (n - (k + 1))
        case measure => rw [Hg.out]; omega
        case rel => exact ⟨k + 1, rfl, by omega, by go_num, by rw [HZ.out]; go_num, (hu.alloc _).then_non hu4⟩
      · obtain rfl : n = k := by omega
        have HT : Hid (1 + Pt.sizeL (p.kids.take n) = p.size) := by show _ = _; rw [HS.out, ← Hn.out]; simp
        rw [HT.out]
        go_wp2_with fail
        go_ret
        exact ⟨rfl, hU.then_non hu⟩
end Go.Proofs.Ytblkgjdhaibhgaa

namespace Go.Proofs.Ytblkgjdhaibhgaa
open Go.RowKit

section
variable {w : World} {F : Nat → Prop} {g : Nat}
theorem PtK.leaf {v op imm iv : Int} {KA : Option Addr} {kc : Nat} : PtK w F (.mk v op imm iv []) KA kc := by rw [PtK.iff]; exact ⟨by simp [Pt.kids], .inl rfl⟩
theorem PtK.one {k0 : Pt} {KA0 : Option Addr} {kc0 kc : Nat} (v op imm iv : Int) (h : Blk w g 30 #[.int .i64 k0.v, .int .i64 k0.op, .int .i64 k0.imm, .int .i64 k0.iv, .slice KA0 k0.kids.length kc0]) (h0 : PtK w F k0 KA0 kc0) (hF : F g) (hkc : 1 ≤ kc) :
    PtK w F (.mk v op imm iv [k0]) (some ⟨g, 0, none⟩) kc := by
  rw [PtK.iff]
  refine ⟨hkc, .inr ⟨g, 0, rfl, hF, PtL.of fun i hi => ?_⟩⟩
  have : i = 0 := by simp [Pt.kids] at hi; omega
  subst this
  exact ⟨KA0, kc0, h.cell 0, h.cell 1, h.cell 2, h.cell 3, h.cell 4, h0⟩
theorem PtK.two {k0 k1 : Pt} {KA0 KA1 : Option Addr} {kc0 kc1 kc : Nat} (v op imm iv : Int) (h : Blk w g 30 #[.int .i64 k0.v, .int .i64 k0.op, .int .i64 k0.imm, .int .i64 k0.iv, .slice KA0 k0.kids.length kc0, .int .i64 k1.v, .int .i64 k1.op, .int .i64 k1.imm, .int .i64 k1.iv, .slice KA1 k1.kids.length kc1]) (h0 : PtK w F k0 KA0 kc0) (h1 : PtK w F k1 KA1 kc1) (hF : F g) (hkc : 2 ≤ kc) :
    PtK w F (.mk v op imm iv [k0, k1]) (some ⟨g, 0, none⟩) kc := by
  rw [PtK.iff]
  refine ⟨hkc, .inr ⟨g, 0, rfl, hF, PtL.of fun i hi => ?_⟩⟩
  have : i = 0 ∨ i = 1 := by simp [Pt.kids] at hi; omega
  rcases this with rfl | rfl
  · exact ⟨KA0, kc0, h.cell 0, h.cell 1, h.cell 2, h.cell 3, h.cell 4, h0⟩
  · exact ⟨KA1, kc1, h.cell 5, h.cell 6, h.cell 7, h.cell 8, h.cell 9, h1⟩
end
theorem Pt.size_leaf (v op imm iv : Int) : (Pt.mk v op imm iv []).size = 1 := by simp [Pt.size, Pt.sizeL]
theorem Pt.size_one (v op imm iv : Int) (a : Pt) : (Pt.mk v op imm iv [a]).size = 1 + a.size := by simp [Pt.size, Pt.sizeL]
theorem Pt.size_two (v op imm iv : Int) (a b : Pt) : (Pt.mk v op imm iv [a, b]).size = 1 + (a.size + b.size) := by simp [Pt.size, Pt.sizeL]
end Go.Proofs.Ytblkgjdhaibhgaa

namespace Go.Proofs.Ytblkgjdhaibhgaa
open Go.RowKit

set_option maxRecDepth 100000 in
set_option maxHeartbeats 1000000 in
theorem next_c (w : World) (p : Nat) (A : Option Addr) (c : Nat) (xs : List Int) (lp : Value) (F : Nat → Prop) (hF : ∀ k, F k → k ≠ p) (hb : Blk w p 71 #[.slice A xs.length c, lp]) (hx : Ints w F A xs) (hc : xs.length ≤ c) :
    Calls Try.prog 24 #[.pointer (some ⟨p, 0, none⟩)] w fun e w' => e = .returned (.int .i64 (xs.headD 0)) ∧ ∃ A' c', Blk w' p 71 #[.slice A' xs.tail.length c', lp] ∧ Ints w' F A' xs.tail ∧ xs.tail.length ≤ c' ∧ Upd (· = p) w w' := by
  have c0 := hb.cell 0
  cases xs with
  | nil =>
    go_enter Try.func24, Try.ntmps24
    go_wp2_with fail
    go_ret
    exact ⟨rfl, A, c, hb, Ints.nil, hc, Upd.refl⟩
  | cons x xs =>
    obtain ⟨b, o, rfl, hFb, _, h1⟩ := hx.at_ (k := 0) (by simp)
    rw [Nat.add_zero] at h1
    simp only [List.getElem_cons_zero] at h1
    have f0 := hb.frozen 0
    have hc' : xs.length + 1 ≤ c := by simpa using hc
    have hne := hF b hFb
    by_cases hc1 : c = 1
    · subst hc1
      obtain rfl : xs = [] := List.eq_nil_of_length_eq_zero (by omega)
      go_enter Try.func24, Try.ntmps24
      go_wp2_with fail
      go_ret
      have hb2 := hb.set_ 0 (.slice (some ⟨b, o, none⟩) 0 0)
      refine ⟨rfl, some ⟨b, o, none⟩, 0, ?_, Ints.nil, by simp, Upd.refl.setCell (S := (· = p)) (p := ⟨p, 0, none⟩) (.inl rfl) _⟩
      simpa using hb2
    · have hb2 := hb.set_ 0 (.slice (some ⟨b, o + 1, none⟩) xs.length (c - 1))
      have hx2 := hx.upd (Upd.refl.setCell (p := ⟨p, 0, none⟩) (S := (· = p)) (.inl rfl) (.slice (some ⟨b, o + 1, none⟩) xs.length (c - 1))) (fun k _ h => hF k h)
      have d : ((c : Int) == 1) = false := by simp; omega
      have HX : Hid (Ints (w.setCell ⟨p, 0, none⟩ (.slice (some ⟨b, o + 1, none⟩) xs.length (c - 1))) F (some ⟨b, o + 1, none⟩) xs) := by
        refine .inr ⟨b, o + 1, rfl, hFb, fun j hj => ?_⟩
        have hj' : j < xs.length := by simpa using hj
        obtain ⟨b', o', e, _, _, hc⟩ := hx2.at_ (k := j + 1) (by simpa using hj')
        injection e with e; injection e with e1 e2; subst e1; subst e2
        rw [Nat.add_assoc, Nat.add_comm 1 j, hc]
        simp
      clear hx2 hx
      go_enter Try.func24, Try.ntmps24
      go_wp2_with fail
      go_ret
      refine ⟨rfl, some ⟨b, o + 1, none⟩, c - 1, ?_, HX.out, by simp; omega, Upd.refl.setCell (S := (· = p)) (p := ⟨p, 0, none⟩) (.inl rfl) _⟩
      simpa using hb2

/-- The reader in block p; what it has still to read. -/
def Rd (w : World) (F : Nat → Prop) (p : Nat) (xs : List Int) : Prop := ∃ A c lp, Blk w p 71 #[.slice A xs.length c, lp] ∧ Ints w F A xs ∧ xs.length ≤ c ∧ ∀ x ∈ xs, I64 x
theorem Rd.upd {w w' : World} {F S : Nat → Prop} {p : Nat} {xs : List Int} (h : Rd w F p xs) (u : Upd S w w') (d : ∀ k, k < w.heap.size → F k → ¬ S k) (hp : ¬ S p) : Rd w' F p xs := by
  obtain ⟨A, c, lp, h1, h2, h3⟩ := h
  exact ⟨A, c, lp, h1.upd u hp, h2.upd u d, h3⟩
theorem Rd.mono {w : World} {F G : Nat → Prop} {p : Nat} {xs : List Int} (h : Rd w F p xs) (d : ∀ k, k < w.heap.size → F k → G k) : Rd w G p xs := by
  obtain ⟨A, c, lp, h1, h2, h3⟩ := h
  exact ⟨A, c, lp, h1, h2.mono d, h3⟩
theorem Rd.lt {w : World} {F : Nat → Prop} {p : Nat} {xs : List Int} (h : Rd w F p xs) : p < w.heap.size := by obtain ⟨_, _, _, h1, _⟩ := h; exact h1.lt
theorem Rd.i64 {w : World} {F : Nat → Prop} {p : Nat} {xs : List Int} (h : Rd w F p xs) : I64 (xs.headD 0) := by
  obtain ⟨_, _, _, _, _, _, h⟩ := h
  cases xs with
  | nil => show I64 0; unfold I64; omega
  | cons x xs => exact h x (by simp)
theorem rdNext_c {w : World} {F : Nat → Prop} {p : Nat} {xs : List Int} (hF : ∀ k, F k → k ≠ p) (h : Rd w F p xs) :
    Calls Try.prog 24 #[.pointer (some ⟨p, 0, none⟩)] w fun e w' => e = .returned (.int .i64 (xs.headD 0)) ∧ Rd w' F p xs.tail ∧ Upd (· = p) w w' := by
  obtain ⟨A, c, lp, h1, h2, h3, h4⟩ := h
  refine (next_c w p A c xs lp F hF h1 h2 h3).mono ?_
  rintro e w' ⟨rfl, A', c', g1, g2, g3, g4⟩
  exact ⟨rfl, ⟨A', c', lp, g1, g2, g3, fun x hx => h4 x (List.mem_of_mem_tail hx)⟩, g4⟩

/-- The five cells of a pattern, stored one after the other. -/
def set5 (w : World) (g : Nat) (a b c d e : Value) : World := ((((w.setCell ⟨g, 0, none⟩ a).setCell ⟨g, 1, none⟩ b).setCell ⟨g, 2, none⟩ c).setCell ⟨g, 3, none⟩ d).setCell ⟨g, 4, none⟩ e
theorem set5_blk {w : World} {g : Nat} {x0 x1 x2 x3 x4 : Value} (h : Blk w g 30 #[x0, x1, x2, x3, x4]) (a b c d e : Value) : Blk (set5 w g a b c d e) g 30 #[a, b, c, d, e] := by
  have h1 := ((((h.set_ 0 a).set_ 1 b).set_ 2 c).set_ 3 d).set_ 4 e
  simpa [set5] using h1
theorem set5_upd (w : World) (g : Nat) (a b c d e : Value) : Upd (· = g) w (set5 w g a b c d e) :=
  ((((Upd.refl.setCell (S := (· = g)) (p := ⟨g, 0, none⟩) (.inl rfl) _).setCell (p := ⟨g, 1, none⟩) (.inl rfl) _).setCell (p := ⟨g, 2, none⟩) (.inl rfl) _).setCell (p := ⟨g, 3, none⟩) (.inl rfl) _).setCell (p := ⟨g, 4, none⟩) (.inl rfl) _
theorem wordF_i64 (n : Int) {x : Int} (h : I64 x) : I64 (wordF n x) := by
  unfold wordF
  split
  · have h1 : ∀ k : Fin 10, I64 (edgesF.getD k.val 0) := by unfold I64; decide +kernel
    have h0 : 0 ≤ n % 24 := Int.emod_nonneg _ (by omega)
    exact h1 ⟨(n % 24).toNat, by omega⟩
  · split
    · unfold I64; omega
    · exact h
theorem set5_eq (w : World) (g : Nat) (a b c d e : Value) : ((((w.setCell ⟨g, 0, none⟩ a).setCell ⟨g, 1, none⟩ b).setCell ⟨g, 2, none⟩ c).setCell ⟨g, 3, none⟩ d).setCell ⟨g, 4, none⟩ e = set5 w g a b c d e := rfl

end Go.Proofs.Ytblkgjdhaibhgaa
