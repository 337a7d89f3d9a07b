/-
  Small laws that every chapter uses. No condition of its own.
-/
import Derived.Test.YtnefhokojbkppaaViews
import Derived.Test.YtnefhokojbkppaaDrawn
import Derived.Test.YtnefhokojbkppaaProg
import Derived.Deep.CutBlock
import Derived.Deep.RegionHeld3
import Derived.IntWalk
namespace Go.Proofs.Ytnefhokojbkppaa
open Go.RowKit

theorem i64w_of {x : Int} (h : I64 x) : IntKind.i64.wrap x = x := by rw [IntKind.wrap_i64]; unfold I64 at h; omega
theorem step_app {P : Program} {w : World} {ops : Array Oper} {o : Oper} {a : Act} {K : Act → World → Prop} {Q : Exit → Act → World → Prop} {E : Prop} (hgd : o.guard = none) {s x : Operand} {t : TypeId}
    (ho : o.op = .call { callee := .builtin .append, args := #[s, x], argTypes := #[t, t] }) {F : Nat → Prop} {e : TypeId} {size bytes : Nat} (T : SlT P t e size bytes) {A : Option Addr} {n c : Nat} {cs : List Value} (hs : a.eval s = .slice A n c) (h : Own w e size A n c cs)
    {A2 : Option Addr} {m c2 : Nat} {news : List Value} (hx : a.eval x = .slice A2 m c2) (hr : Sl w F A2 news) (hl : news.length = m * size) (h1 : ∀ u ∈ news, u.oneCell' = true) (h63 : n + m ≤ maxLen) (hb : (n + m) * bytes ≤ 140737488355328)
    (k : ∀ A' c' w', Own w' e size A' (n + m) c' (cs ++ news) → Upd (At A) w w' → (∀ k, At A' k → At A k ∨ k = w.heap.size) → K (a.put o.dst (.slice A' (n + m) c')) w') :
    if Region.wanted o (yielded ops a.tmps) = true then Oper.wp P o a w K Q else E := by
  have hw : Region.wanted o (yielded ops a.tmps) = true := by simp [Region.wanted, hgd]
  rw [if_pos hw]
  exact wp_app ho T hs h hx hr hl h1 h63 hb k
theorem getD_of {α : Type} {l : List α} {i : Nat} {d : α} (h : i < l.length) : l.getD i d = l[i] := by simp [List.getD, h]
theorem updCell (w : World) (b i : Nat) (v : Value) : Upd (· = b) w (w.setCell ⟨b, i, none⟩ v) := Upd.refl.setCell (S := (· = b)) (p := ⟨b, i, none⟩) (.inl rfl) _
def icells (l : List Int) : List Value := l.map fun x => Value.int .i64 x
theorem icells_snoc (l : List Int) (x : Int) : icells (l ++ [x]) = icells l ++ [.int .i64 x] := by simp [icells]
theorem T_ints' : SlT Try.prog 29 3 1 8 := by
  obtain ⟨i, h1, h2, h3, h4⟩ := info_parts (show (Try.prog.info? 3).map (fun i => (i.zero, i.size, i.bytes)) = some (some (.int .i64 0), 1, 8) from by kernel_rfl)
  exact ⟨Try.underlying29, ⟨i, _, h1, h2, h3, h4, rfl⟩, by omega⟩
theorem Own.ints {w : World} {A : Option Addr} {n c : Nat} {l : List Int} (h : Own w 3 1 A n c (icells l)) : Ints w (At A) A l := h.sl
theorem Own.le {w : World} {e : TypeId} {size : Nat} {A : Option Addr} {n c : Nat} {cs : List Value} (h : Own w e size A n c cs) : n ≤ c := by
  rcases h.cases with ⟨_, h, _⟩ | ⟨_, _, _, _, h, _⟩ <;> omega
theorem Own.set_ {w : World} {e : TypeId} {g n c : Nat} {cs : List Value} (h : Own w e 1 (some ⟨g, 0, none⟩) n c cs) (i : Nat) (u : Value) : Own (w.setCell ⟨g, i, none⟩ u) e 1 (some ⟨g, 0, none⟩) n c (cs.set i u) := by
  rcases h.cases with ⟨h0, _⟩ | ⟨g', cur, e1, hb, hn, hm, hs, ht⟩
  · cases h0
  · injection e1 with e1; injection e1 with e1; subst e1
    refine Own.mk_ (hb.set_ i u) hn hm (by simpa using hs) ?_
    rw [Array.toList_setIfInBounds, List.take_set, ht]
theorem Own.cell_ {w : World} {e : TypeId} {g n c : Nat} {cs : List Value} (h : Own w e 1 (some ⟨g, 0, none⟩) n c cs) {i : Nat} (hi : i < cs.length) : w.cell? ⟨g, i, none⟩ = some cs[i] := by
  rcases h.cases with ⟨h0, _⟩ | ⟨g', cur, e1, hb, hn, hm, hs, ht⟩
  · cases h0
  · injection e1 with e1; injection e1 with e1; subst e1
    subst ht
    rw [hb.cell]
    simp at hi ⊢
theorem Own.frozen_ {w : World} {e : TypeId} {g n c : Nat} {cs : List Value} (h : Own w e 1 (some ⟨g, 0, none⟩) n c cs) (i : Nat) : w.frozen? ⟨g, i, none⟩ = false := by
  rcases h.cases with ⟨h0, _⟩ | ⟨g', cur, e1, hb, hn, hm, hs, ht⟩
  · cases h0
  · injection e1 with e1; injection e1 with e1; subst e1
    exact hb.frozen i
theorem Own.some_ {w : World} {e : TypeId} {size : Nat} {A : Option Addr} {n c : Nat} {cs : List Value} (h : Own w e size A n c cs) (hn : 0 < n) : ∃ g, A = some ⟨g, 0, none⟩ := by
  rcases h.cases with ⟨_, h0, _⟩ | ⟨g, cur, e1, _⟩
  · omega
  · exact ⟨g, e1⟩
theorem icells_one (xs : List Int) : ∀ u ∈ icells xs, u.oneCell' = true := by
  intro u hu
  obtain ⟨x, _, rfl⟩ := List.mem_map.1 hu
  rfl
theorem own_empty (w : World) (t : TypeId) (size : Nat) : Own (w.alloc (.cells #[] t)) t size (some ⟨w.heap.size, 0, none⟩) 0 0 [] := Own.mk_ (Blk.new w t #[]) (Nat.le_refl _) (by simp [maxLen]) (by simp) (by simp)
theorem own_empty' {w : World} (t : TypeId) (size : Nat) {g : Nat} (h : g = w.heap.size) : Own (w.alloc (.cells #[] t)) t size (some ⟨g, 0, none⟩) 0 0 [] := by subst h; exact own_empty w t size
/-- The end of a slice that reads as a list. -/
theorem Sl.cut {w : World} {F : Nat → Prop} {A : Option Addr} {cs : List Value} (h : Sl w F A cs) (k cap : Nat) (hc : cs.length ≤ cap) : Sl w F (if cap = k then A else A.map (·.add k)) (cs.drop k) := by
  rcases h with h | ⟨b, off, rfl, hF, hc'⟩
  · subst h; exact .inl (by simp)
  · by_cases hk : k < cs.length
    · rw [if_neg (by omega)]
      refine .inr ⟨b, off + k, by simp [Addr.add_lit], hF, fun j hj => ?_⟩
      rw [List.length_drop] at hj
      rw [Nat.add_assoc, hc' (k + j) (by omega), List.getElem_drop]
    · exact .inl (List.drop_eq_nil_of_le (by omega))
theorem Ints.cut {w : World} {F : Nat → Prop} {A : Option Addr} {xs : List Int} (h : Ints w F A xs) (k cap : Nat) (hc : xs.length ≤ cap) : Ints w F (if cap = k then A else A.map (·.add k)) (xs.drop k) := by
  have := Sl.cut h k cap (by simpa using hc)
  rw [← List.map_drop] at this
  exact this
theorem Sl.take_ {w : World} {F : Nat → Prop} {A : Option Addr} {cs : List Value} (h : Sl w F A cs) (k : Nat) : Sl w F A (cs.take k) := by
  rcases h with h | ⟨b, off, rfl, hF, hc'⟩
  · subst h; exact .inl (by simp)
  · refine .inr ⟨b, off, rfl, hF, fun j hj => ?_⟩
    rw [List.length_take] at hj
    rw [hc' j (by omega), List.getElem_take]
theorem Ints.take_ {w : World} {F : Nat → Prop} {A : Option Addr} {xs : List Int} (h : Ints w F A xs) (k : Nat) : Ints w F A (xs.take k) := by
  have := Sl.take_ h k
  rw [← List.map_take] at this
  exact this
theorem Ints.drop_ {w : World} {F : Nat → Prop} {b o : Nat} {xs : List Int} (h : Ints w F (some ⟨b, o, none⟩) xs) (k : Nat) : Ints w F (some ⟨b, o + k, none⟩) (xs.drop k) := by
  rcases h with h | ⟨b', o', e, hF, hc⟩
  · have : xs = [] := by simpa using h
    subst this; exact .inl (by simp)
  · injection e with e; injection e with e1 e2; subst e1; subst e2
    refine .inr ⟨b, o + k, rfl, hF, fun j hj => ?_⟩
    have hj' : k + j < xs.length := by simp at hj; omega
    rw [Nat.add_assoc, hc (k + j) (by simpa using hj')]
    simp
theorem Sl.new2 (w : World) (o : Obj) (t : TypeId) (cs : List Value) : Sl ((w.alloc o).alloc (.cells cs.toArray t)) (· = w.heap.size + 1) (some ⟨w.heap.size + 1, 0, none⟩) cs := by
  have := Sl.new (w.alloc o) t cs
  rwa [show (w.alloc o).heap.size = w.heap.size + 1 by simp] at this
theorem cell_set_other {w : World} {b i j : Nat} {u v : Value} (h : w.cell? ⟨b, j, none⟩ = some v) (hne : i ≠ j) : (w.setCell ⟨b, i, none⟩ u).cell? ⟨b, j, none⟩ = some v := by
  rw [World.cell?_setCell_other]
  · exact h
  · intro e
    injection e with _ e2
    exact hne e2
theorem put_z : (∀ (a : Act) (d : Tmp) (v : Value), a.put (some d) v = { a with tmps := a.tmps.setIfInBounds d v }) ∧ (∀ (a : Act) (v : Value), a.put none v = a) ∧
    (∀ (l : List Value) (i : Nat) (v : Value), l.toArray.setIfInBounds i v = (l.set i v).toArray) ∧ (∀ (x v : Value) (l : List Value), (x :: l).set 0 v = v :: l) ∧ (∀ (x v : Value) (l : List Value) (n : Nat), (x :: l).set (n + 1) v = x :: l.set n v) :=
  ⟨fun _ _ _ => rfl, fun _ _ => rfl, fun _ _ _ => by simp, fun _ _ _ => rfl, fun _ _ _ _ => rfl⟩
/-- The operation that has come up, out of its region. -/
theorem put_y : (∀ (l : List Oper) (i : Nat) (h : i < l.toArray.size), l.toArray[i]'h = l[i]'(by simpa using h)) ∧ (∀ (x : Oper) (l : List Oper) (h : 0 < (x :: l).length), (x :: l)[0]'h = x) ∧
    (∀ (x : Oper) (l : List Oper) (n : Nat) (h : n + 1 < (x :: l).length), (x :: l)[n + 1]'h = l[n]'(by simpa using h)) := ⟨fun _ _ _ => by simp, fun _ _ _ => rfl, fun _ _ _ _ => rfl⟩
end Go.Proofs.Ytnefhokojbkppaa
