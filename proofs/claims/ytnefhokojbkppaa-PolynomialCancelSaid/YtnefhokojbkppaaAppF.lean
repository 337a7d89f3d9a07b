/-
  append to a slice without spare capacity: the cells lie in a new block. No condition of its own.
-/
import Derived.Test.YtnefhokojbkppaaGe
import Derived.Laws.AppendOwn
namespace Go.Proofs.Ytnefhokojbkppaa
open Go.RowKit

theorem run_app_full {P : Program} {w : World} {F F2 : Nat → Prop} {t ty e : TypeId} {size bytes : Nat} (T : SlT P t e size bytes) {A : Option Addr} {n : Nat} {cs : List Value} (h : Sl w F A cs) (hlo : cs.length = n * size) (hA : A = none → n = 0)
    {A2 : Option Addr} {m c2 : Nat} {news : List Value} (hr : Sl w F2 A2 news) (hl : news.length = m * size) (hm0 : 0 < m) (h63 : n + m ≤ maxLen) (hb : (n + m) * bytes ≤ 140737488355328) :
    ∃ c' w', (Builtin.append_ #[t, t] ty #[.slice A n n, .slice A2 m c2]).run P w = .ok (.slice (some ⟨w.heap.size, 0, none⟩) (n + m) c') w' ∧ Own w' e size (some ⟨w.heap.size, 0, none⟩) (n + m) c' (cs ++ news) ∧ Upd Non w w' := by
  obtain ⟨ht, ⟨i, z, hi, hz, hsz, hby, hzs⟩, hpos⟩ := T
  subst hsz; subst hby
  have hsmall : n + m ≤ 9223372036854775807 := by simp only [maxLen] at h63; omega
  have hlen : (cs ++ news).length = (n + m) * i.size := by rw [List.length_append, hlo, hl, Nat.add_mul]
  obtain ⟨a, rfl, hnews⟩ : ∃ a, A2 = some a ∧ ∀ j u, news[j]? = some u → w.cell? (a.add j) = some u := by
    rcases hr with hr | ⟨b, off, rfl, _, hc⟩
    · subst hr
      have : m * i.size = 0 := by simpa using hl.symm
      rcases Nat.mul_eq_zero.1 this with h0 | h0 <;> omega
    · refine ⟨_, rfl, fun j u hu => ?_⟩
      obtain ⟨hj, rfl⟩ := List.getElem?_eq_some_iff.1 hu
      rw [Addr.add_lit]
      exact hc j hj
  have grown : ∀ (old : Nat), old < n + m →
      Own (w.drew.alloc (.cells (cs.toArray ++ news.toArray ++ Builtin.zeroCells z.cells (grownCap w (n + m) old e - (n + m))) e)) e i.size (some ⟨w.heap.size, 0, none⟩) (n + m) (grownCap w (n + m) old e) (cs ++ news) ∧
      Upd Non w (w.drew.alloc (.cells (cs.toArray ++ news.toArray ++ Builtin.zeroCells z.cells (grownCap w (n + m) old e - (n + m))) e)) := by
    intro old ho
    have hge := grownCap_ge w (n + m) old e
    have hcm : grownCap w (n + m) old e ≤ maxLen := grownCap_le_maxLen w (n + m) old e h63
    refine ⟨Own.mk_ (heap_alloc_new w.drew _) hge hcm ?_ ?_, Upd.refl.drew.alloc _⟩
    · simp only [Array.size_append, List.size_toArray, size_zeroCells, hzs, hlo, hl, ← Nat.add_mul]
      congr 1
      omega
    · simp only [Array.toList_append, List.append_assoc]
      rw [← List.append_assoc, ← hlen]
      exact List.take_left
  cases A with
  | none =>
    obtain rfl := hA rfl
    have hx : cs = [] := List.eq_nil_of_length_eq_zero (by simpa using hlo)
    subst hx
    have hr := run_append_nil (P := P) w t ty e i z ht hi hz a m c2 news hl hnews (by omega) (by omega) (by simp only [Nat.zero_add] at hb; omega)
    have hgr := grown 0 (by omega)
    simp only [Nat.zero_add, List.nil_append, Array.empty_append] at hgr ⊢
    exact ⟨_, _, hr, hgr.1, hgr.2⟩
  | some b =>
    have holds : ∀ j u, cs[j]? = some u → w.cell? (b.add j) = some u := by
      intro j u hu
      obtain ⟨hj, rfl⟩ := List.getElem?_eq_some_iff.1 hu
      rcases h with h | ⟨b', off, e1, _, hc⟩
      · subst h; simp at hj
      · injection e1 with e1; subst e1
        rw [Addr.add_lit]
        exact hc j hj
    have hr := run_append_grow (P := P) w t ty e i z ht hi hz b n n cs hlo holds a m c2 news hl hnews (by omega) (by omega) (growslice_fits (by omega) hb)
    have hgr := grown n (by omega)
    exact ⟨_, _, hr, hgr.1, hgr.2⟩

theorem step_app_full {P : Program} {w : World} {ops : Array Oper} {o : Oper} {a : Act} {K : Act → World → Prop} {Q : Exit → Act → World → Prop} {E : Prop} (hgd : o.guard = none) {s x : Operand} {t : TypeId}
    (ho : o.op = .call { callee := .builtin .append, args := #[s, x], argTypes := #[t, t] }) {F F2 : Nat → Prop} {e : TypeId} {size bytes : Nat} (T : SlT P t e size bytes) {A : Option Addr} {n : Nat} {cs : List Value} (hs : a.eval s = .slice A n n) (h : Sl w F A cs) (hlo : cs.length = n * size) (hA : A = none → n = 0)
    {A2 : Option Addr} {m c2 : Nat} {news : List Value} (hx : a.eval x = .slice A2 m c2) (hr : Sl w F2 A2 news) (hl : news.length = m * size) (hm0 : 0 < m) (h63 : n + m ≤ maxLen) (hb : (n + m) * bytes ≤ 140737488355328)
    (k : ∀ c' w', Own w' e size (some ⟨w.heap.size, 0, none⟩) (n + m) c' (cs ++ news) → Upd Non w w' → K (a.put o.dst (.slice (some ⟨w.heap.size, 0, none⟩) (n + m) c')) w') :
    if Region.wanted o (yielded ops a.tmps) = true then Oper.wp P o a w K Q else E := by
  have hw : Region.wanted o (yielded ops a.tmps) = true := by simp [Region.wanted, hgd]
  rw [if_pos hw]
  obtain ⟨c', w', hrun, h2, h3⟩ := run_app_full (P := P) (ty := o.type) (c2 := c2) T h hlo hA hr hl hm0 h63 hb
  unfold Oper.wp execOp
  simp only [ho, resolve, invoke, builtin, Sem.run_bind, Sem.run_pure, Result.andThen_ok, List.map_toArray, List.map_cons, List.map_nil, hs, hx, hrun]
  exact k c' w' h2 h3
theorem wpList_app_full {P : Program} {w : World} {ops : Array Oper} {rest : List Oper} {o : Oper} {a : Act} {Q : Exit → Act → World → Prop} (hgd : o.guard = none) {s x : Operand} {t : TypeId}
    (ho : o.op = .call { callee := .builtin .append, args := #[s, x], argTypes := #[t, t] }) {F F2 : Nat → Prop} {e : TypeId} {size bytes : Nat} (T : SlT P t e size bytes) {A : Option Addr} {n : Nat} {cs : List Value} (hs : a.eval s = .slice A n n) (h : Sl w F A cs) (hlo : cs.length = n * size) (hA : A = none → n = 0)
    {A2 : Option Addr} {m c2 : Nat} {news : List Value} (hx : a.eval x = .slice A2 m c2) (hr : Sl w F2 A2 news) (hl : news.length = m * size) (hm0 : 0 < m) (h63 : n + m ≤ maxLen) (hb : (n + m) * bytes ≤ 140737488355328)
    (k : ∀ c' w', Own w' e size (some ⟨w.heap.size, 0, none⟩) (n + m) c' (cs ++ news) → Upd Non w w' → wpList P ops Q rest (a.put o.dst (.slice (some ⟨w.heap.size, 0, none⟩) (n + m) c')) w') : wpList P ops Q (o :: rest) a w :=
  wpList_plain hgd fun K hK => by
    obtain ⟨c', w', hrun, h2, h3⟩ := run_app_full (P := P) (ty := o.type) (c2 := c2) T h hlo hA hr hl hm0 h63 hb
    unfold Oper.wp execOp
    simp only [ho, resolve, invoke, builtin, Sem.run_bind, Sem.run_pure, Result.andThen_ok, List.map_toArray, List.map_cons, List.map_nil, hs, hx, hrun]
    exact hK _ _ (k c' w' h2 h3)
end Go.Proofs.Ytnefhokojbkppaa
