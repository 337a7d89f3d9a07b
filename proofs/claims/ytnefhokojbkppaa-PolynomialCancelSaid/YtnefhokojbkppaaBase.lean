/-
  Words for memory, over any program: what stays (Upd), a block known whole (Blk), a slice that reads as cells (Sl), a slice that the call owns and appends to (Own). No condition of its own.
-/
import Derived.WalkKit
import Derived.WalkSpells
import Derived.WalkLawsBesides
import Derived.Lib.Hide
import Derived.Maps.AppendAt
import Derived.Deep.Draws
namespace Go.Proofs.Ytnefhokojbkppaa
open Go.RowKit

/-- Blocks outside S are as they were; the streams too; no block has gone. -/
structure Upd (S : Nat → Prop) (w w' : World) : Prop where
  os : w'.os = w.os
  tape : w'.tape = w.tape
  output : w'.output = w.output
  size : w.heap.size ≤ w'.heap.size
  block : ∀ k, k < w.heap.size → ¬ S k → w'.heap[k]? = w.heap[k]?

/-- No old block has turned. -/
def Non : Nat → Prop := fun _ => False

theorem Upd.refl {S : Nat → Prop} {w : World} : Upd S w w := ⟨rfl, rfl, rfl, Nat.le_refl _, fun _ _ _ => rfl⟩
theorem Upd.trans {S T : Nat → Prop} {a b c : World} (h : Upd S a b) (k : Upd T b c) (hT : ∀ i, i < a.heap.size → T i → S i) : Upd S a c :=
  ⟨k.os.trans h.os, k.tape.trans h.tape, k.output.trans h.output, Nat.le_trans h.size k.size, fun i hi hn => (k.block i (Nat.lt_of_lt_of_le hi h.size) (fun t => hn (hT i hi t))).trans (h.block i hi hn)⟩
theorem Upd.mono {S T : Nat → Prop} {a b : World} (h : Upd S a b) (hT : ∀ i, i < a.heap.size → S i → T i) : Upd T a b :=
  ⟨h.os, h.tape, h.output, h.size, fun i hi hn => h.block i hi (fun s => hn (hT i hi s))⟩
theorem Upd.then_non {S : Nat → Prop} {a b c : World} (h : Upd S a b) (k : Upd Non b c) : Upd S a c := h.trans k (fun _ _ f => f.elim)
theorem Upd.alloc {S : Nat → Prop} {a w : World} (h : Upd S a w) (o : Obj) : Upd S a (w.alloc o) :=
  ⟨h.os, h.tape, h.output, Nat.le_trans h.size (by simp), fun i hi hn => (Below.heap_alloc w o i (Nat.lt_of_lt_of_le hi h.size)).trans (h.block i hi hn)⟩
theorem Upd.setCell {S : Nat → Prop} {a w : World} (h : Upd S a w) {p : Addr} (hp : S p.block ∨ a.heap.size ≤ p.block) (u : Value) : Upd S a (w.setCell p u) :=
  ⟨h.os, h.tape, h.output, by simpa [World.setCell] using h.size, fun k hk hn => (Below.heap_setCell w p u k (by rintro rfl; rcases hp with hp | hp; exact hn hp; omega)).trans (h.block k hk hn)⟩
theorem Upd.drew {S : Nat → Prop} {a w : World} (h : Upd S a w) : Upd S a w.drew := ⟨h.os, h.tape, h.output, h.size, h.block⟩
theorem Upd.drewN {S : Nat → Prop} {a w : World} (h : Upd S a w) (n : Nat) : Upd S a (w.drewN n) := ⟨h.os, h.tape, h.output, h.size, h.block⟩
theorem Upd.of_grown {w w' : World} {row : Option Nat} (hg : w.grownBy w' row) : Upd (fun k => some k = row) w w' := ⟨hg.os, hg.tape, hg.output, hg.size, hg.block⟩
theorem Upd.toBelow {w w' : World} (h : Upd Non w w') : Below w.heap.size w w' := ⟨h.os, h.tape, h.output, h.size, fun k hk => h.block k hk (fun f => f)⟩
theorem Upd.of_below {w w' : World} (h : Below w.heap.size w w') : Upd Non w w' := ⟨h.os, h.tape, h.output, h.size, fun k hk _ => h.block k hk⟩
theorem Upd.below {S : Nat → Prop} {B : Nat} {a b c : World} (h : Below B a b) (k : Upd S b c) (hB : B ≤ b.heap.size) (hS : ∀ i, i < B → ¬ S i) : Below B a c :=
  h.trans ⟨k.os, k.tape, k.output, k.size, fun i hi => k.block i (by omega) (hS i hi)⟩

/-! A block known whole -/
def Blk (w : World) (g : Nat) (t : TypeId) (cs : Array Value) : Prop := w.heap[g]? = some (.cells cs t (0, 0))
section
variable {w w' : World} {g : Nat} {t : TypeId} {cs : Array Value}
theorem lt_of_heap {o : Obj} (h : w.heap[g]? = some o) : g < w.heap.size := by
  rcases Nat.lt_or_ge g w.heap.size with hlt | hge
  · exact hlt
  · rw [Array.getElem?_eq_none hge] at h; cases h
theorem Blk.lt (h : Blk w g t cs) : g < w.heap.size := lt_of_heap h
theorem Blk.cell (h : Blk w g t cs) (i : Nat) : w.cell? ⟨g, i, none⟩ = cs[i]? := cell_of_row w g i cs t (0, 0) h
theorem Blk.frozen (h : Blk w g t cs) (i : Nat) : w.frozen? ⟨g, i, none⟩ = false := by
  unfold Blk at h
  simp [World.frozen?, h]
theorem Blk.new (w : World) (t : TypeId) (cs : Array Value) : Blk (w.alloc (.cells cs t)) w.heap.size t cs := heap_alloc_new w _
theorem Blk.drew (h : Blk w g t cs) : Blk w.drew g t cs := h
theorem Blk.drewN (h : Blk w g t cs) (n : Nat) : Blk (w.drewN n) g t cs := h
theorem Blk.alloc (h : Blk w g t cs) (o : Obj) : Blk (w.alloc o) g t cs := (Below.heap_alloc w o g h.lt).trans h
theorem Blk.set_ (h : Blk w g t cs) (i : Nat) (u : Value) : Blk (w.setCell ⟨g, i, none⟩ u) g t (cs.setIfInBounds i u) := by
  unfold Blk at h ⊢
  simp [World.setCell, Array.getElem?_modify, h]
theorem Blk.far (h : Blk w g t cs) {p : Addr} (hp : g ≠ p.block) (u : Value) : Blk (w.setCell p u) g t cs := (Below.heap_setCell w p u g hp).trans h
theorem Blk.upd {S : Nat → Prop} (h : Blk w g t cs) (u : Upd S w w') (hS : ¬ S g) : Blk w' g t cs := (u.block g h.lt hS).trans h
theorem Blk.ne_ {g' : Nat} {t' : TypeId} {cs' : Array Value} (h : Blk w g t cs) (h' : Blk w g' t' cs') (hne : t ≠ t') : g ≠ g' := by
  rintro rfl
  unfold Blk at h h'
  rw [h] at h'
  injection h' with h'
  injection h' with _ ht
  exact hne ht
end

/-! A slice that reads as cells: nothing is known of the address where there is no cell -/
def Sl (w : World) (F : Nat → Prop) (A : Option Addr) (cs : List Value) : Prop :=
  cs = [] ∨ ∃ b off, A = some ⟨b, off, none⟩ ∧ F b ∧ ∀ j (h : j < cs.length), w.cell? ⟨b, off + j, none⟩ = some cs[j]
section
variable {w w' : World} {F G S : Nat → Prop} {A : Option Addr} {cs : List Value}
theorem Sl.nil : Sl w F A [] := .inl rfl
theorem Sl.mono (h : Sl w F A cs) (hFG : ∀ k, k < w.heap.size → F k → G k) : Sl w G A cs := by
  rcases h with h | ⟨b, off, e, hF, hc⟩
  · exact .inl h
  · by_cases hn : cs = []
    · exact .inl hn
    · have h0 : 0 < cs.length := List.length_pos_iff.2 hn
      exact .inr ⟨b, off, e, hFG b (World.block_lt_of_cell? w _ (hc 0 h0)) hF, hc⟩
theorem Sl.upd (h : Sl w F A cs) (u : Upd S w w') (d : ∀ k, k < w.heap.size → F k → ¬ S k) : Sl w' F A cs := by
  rcases h with h | ⟨b, off, e, hF, hc⟩
  · exact .inl h
  · refine .inr ⟨b, off, e, hF, fun j hj => ?_⟩
    have hlt : b < w.heap.size := World.block_lt_of_cell? w _ (hc j hj)
    rw [World.cell?_of_block (w := w) (u.block b hlt (d b hlt hF))]
    exact hc j hj
theorem Sl.at_ {k : Nat} (h : Sl w F A cs) (hk : k < cs.length) : ∃ b off, A = some ⟨b, off, none⟩ ∧ F b ∧ b < w.heap.size ∧ w.cell? ⟨b, off + k, none⟩ = some cs[k] := by
  rcases h with h | ⟨b, off, e, hF, hc⟩
  · subst h; simp at hk
  · exact ⟨b, off, e, hF, World.block_lt_of_cell? w _ (hc k hk), hc k hk⟩
theorem Sl.of_blk {g : Nat} {t : TypeId} {cur : Array Value} (hF : F g) (h : Blk w g t cur) (n : Nat) : Sl w F (some ⟨g, 0, none⟩) (cur.toList.take n) :=
  .inr ⟨g, 0, rfl, hF, fun j hj => by rw [h.cell]; simp at hj ⊢⟩
end

/-! The block of an address -/
def At (A : Option Addr) (k : Nat) : Prop := ∃ o s, A = some ⟨k, o, s⟩
theorem At.none_ {k : Nat} : ¬ At none k := fun ⟨_, _, h⟩ => by cases h
theorem At.some_ {g k o : Nat} {s : Option Nat} : At (some ⟨g, o, s⟩) k ↔ k = g := ⟨fun ⟨_, _, h⟩ => by injection h with h; injection h with h; exact h.symm, fun h => ⟨o, s, by rw [h]⟩⟩

/-! A slice that the call owns: it begins at the head of a block -/
def Own (w : World) (e : TypeId) (size : Nat) (A : Option Addr) (n c : Nat) (cs : List Value) : Prop := w.ownsRow 0 e size (.slice A n c) n cs

/-- What the append law asks of the types. -/
structure SlT (P : Program) (t e : TypeId) (size bytes : Nat) : Prop where
  und : P.underlying t = some (.slice e)
  info : ∃ i z, P.info? e = some i ∧ i.zero = some z ∧ i.size = size ∧ i.bytes = bytes ∧ z.cells.size = size
  pos : 0 < size

section
variable {w w' : World} {e : TypeId} {size : Nat} {A : Option Addr} {n c : Nat} {cs : List Value} {S : Nat → Prop}
theorem Own.none_ : Own w e size none 0 0 [] := ⟨by simp, .inl ⟨rfl, rfl⟩⟩
theorem Own.len (h : Own w e size A n c cs) : cs.length = n * size := h.1
theorem Own.cases (h : Own w e size A n c cs) : (A = none ∧ n = 0 ∧ c = 0 ∧ cs = []) ∨ ∃ g cur, A = some ⟨g, 0, none⟩ ∧ Blk w g e cur ∧ n ≤ c ∧ c ≤ maxLen ∧ cur.size = c * size ∧ cur.toList.take (n * size) = cs := by
  obtain ⟨h1, h2⟩ := h
  rcases h2 with ⟨hv, h0⟩ | ⟨g, cap, cur, hv, _, hg, hn, hm, hs, ht⟩
  · left
    injection hv with a b d
    subst h0
    exact ⟨a, rfl, d, List.eq_nil_of_length_eq_zero (by simpa using h1)⟩
  · right
    injection hv with a b d
    subst a; subst d
    exact ⟨g, cur, rfl, hg, hn, hm, hs, ht⟩
theorem Own.mk_ {g : Nat} {cur : Array Value} (hb : Blk w g e cur) (hn : n ≤ c) (hm : c ≤ maxLen) (hs : cur.size = c * size) (ht : cur.toList.take (n * size) = cs) : Own w e size (some ⟨g, 0, none⟩) n c cs := by
  refine ⟨?_, .inr ⟨g, c, cur, rfl, Nat.zero_le _, hb, hn, hm, hs, ht⟩⟩
  rw [← ht, List.length_take, Array.length_toList, hs]
  exact Nat.min_eq_left (Nat.mul_le_mul_right _ hn)
theorem Own.lt (h : Own w e size A n c cs) {k : Nat} (hk : At A k) : k < w.heap.size := by
  rcases h.cases with ⟨rfl, _⟩ | ⟨g, cur, rfl, hb, _⟩
  · exact (At.none_ hk).elim
  · rw [At.some_] at hk; subst hk; exact hb.lt
theorem Own.sl (h : Own w e size A n c cs) : Sl w (At A) A cs := by
  rcases h.cases with ⟨_, _, _, h0⟩ | ⟨g, cur, rfl, hb, _, _, _, ht⟩
  · exact .inl h0
  · rw [← ht]; exact Sl.of_blk (At.some_.2 rfl) hb _
theorem Own.upd (h : Own w e size A n c cs) (u : Upd S w w') (d : ∀ k, At A k → ¬ S k) : Own w' e size A n c cs := by
  rcases h.cases with ⟨rfl, rfl, rfl, rfl⟩ | ⟨g, cur, rfl, hb, hn, hm, hs, ht⟩
  · exact Own.none_
  · exact Own.mk_ (hb.upd u (d g (At.some_.2 rfl))) hn hm hs ht
theorem Own.alloc (h : Own w e size A n c cs) (o : Obj) : Own (w.alloc o) e size A n c cs := h.upd (Upd.refl.alloc o (S := Non)) (fun _ _ f => f)
theorem Own.drew (h : Own w e size A n c cs) : Own w.drew e size A n c cs := h
theorem Own.drewN (h : Own w e size A n c cs) (k : Nat) : Own (w.drewN k) e size A n c cs := h
theorem Own.ne_type {e' : TypeId} {size' n' c' : Nat} {A' : Option Addr} {cs' : List Value} (h : Own w e size A n c cs) (h' : Own w e' size' A' n' c' cs') (hne : e ≠ e') {k : Nat} (hk : At A k) : ¬ At A' k := by
  rcases h.cases with ⟨rfl, _⟩ | ⟨g, cur, rfl, hb, _⟩
  · exact (At.none_ hk).elim
  · rcases h'.cases with ⟨rfl, _⟩ | ⟨g', cur', rfl, hb', _⟩
    · exact At.none_
    · rw [At.some_] at hk ⊢; subst hk; exact hb.ne_ hb' hne
theorem Own.ne_blk {g : Nat} {t : TypeId} {cur : Array Value} (h : Own w e size A n c cs) (h' : Blk w g t cur) (hne : e ≠ t) : ¬ At A g := by
  rcases h.cases with ⟨rfl, _⟩ | ⟨g', cur', rfl, hb, _⟩
  · exact At.none_
  · rw [At.some_]; exact (hb.ne_ h' hne).symm
end

/-- append, the source a slice that reads as cells. -/
theorem run_app {P : Program} {w : World} {F : Nat → Prop} {t ty e : TypeId} {size bytes : Nat} (T : SlT P t e size bytes) {A : Option Addr} {n c : Nat} {cs : List Value} (h : Own w e size A n c cs)
    {A2 : Option Addr} {m c2 : Nat} {news : List Value} (hr : Sl w F A2 news) (hl : news.length = m * size) (h1 : ∀ u ∈ news, u.oneCell' = true) (h63 : n + m ≤ maxLen) (hb : (n + m) * bytes ≤ 140737488355328) :
    ∃ A' c' w', (Builtin.append_ #[t, t] ty #[.slice A n c, .slice A2 m c2]).run P w = .ok (.slice A' (n + m) c') w' ∧ Own w' e size A' (n + m) c' (cs ++ news) ∧ Upd (At A) w w' ∧ (∀ k, At A' k → At A k ∨ k = w.heap.size) := by
  obtain ⟨ht, ⟨i, z, hi, hz, hsz, hby, hzs⟩, hpos⟩ := T
  by_cases hm : m = 0
  · subst hm
    have hn : news = [] := List.eq_nil_of_length_eq_zero (by simpa using hl)
    subst hn
    refine ⟨A, c, w, ?_, by simpa using h, Upd.refl, fun k hk => .inl hk⟩
    rcases h.cases with ⟨rfl, rfl, rfl, rfl⟩ | ⟨g, cur, rfl, hb, hn, hm, hs, ht'⟩
    · cases A2 <;> simp [Builtin.append_, run_underlying ht, sizeOf, typeInfo, hi, Builtin.lenOf, Builtin.firstCells, loadCells, loadCellsFrom]
    · cases A2 <;> simp [Builtin.append_, run_underlying ht, sizeOf, typeInfo, hi, Builtin.lenOf, Builtin.firstCells, hn, storeCells, loadCells, loadCellsFrom]
  · rcases hr with hr | ⟨b, off, rfl, _, hc⟩
    · subst hr
      have : m * size = 0 := by simpa using hl.symm
      rcases Nat.mul_eq_zero.1 this with h0 | h0 <;> omega
    · have hnews : ∀ j u, news[j]? = some u → w.cell? ((⟨b, off, none⟩ : Addr).add j) = some u := by
        intro j u hu
        obtain ⟨hj, rfl⟩ := List.getElem?_eq_some_iff.1 hu
        rw [Addr.add_lit]
        exact hc j hj
      obtain ⟨v', w', hrun, h2, h3, _, h5⟩ := run_append_own_at (P := P) w 0 t ty e i z size bytes ht hi hz hsz hby hzs hpos (.slice A n c) n cs h ⟨b, off, none⟩ m c2 news hl hnews h1 h63 hb (Nat.zero_le _)
      obtain ⟨g, cap, rfl, _, _⟩ : ∃ g cap, v' = .slice (some ⟨g, 0, none⟩) (n + m) cap ∧ True ∧ True := by
        rcases h2.2 with ⟨_, h0⟩ | ⟨g, cap, cur, hv, _⟩
        · omega
        · exact ⟨g, cap, hv, trivial, trivial⟩
      refine ⟨_, _, w', hrun, h2, (Upd.of_grown h3).mono (fun k _ hk => ?_), fun k hk => ?_⟩
      · cases A with
        | none => simp [Value.ownBlock] at hk
        | some a => exact ⟨a.off, a.spot, by simp [Value.ownBlock] at hk; subst hk; rfl⟩
      · rw [At.some_] at hk
        subst hk
        rcases h5 with h5 | h5
        · left
          cases A with
          | none => simp [Value.ownBlock] at h5
          | some a => exact ⟨a.off, a.spot, by simp [Value.ownBlock] at h5; subst h5; rfl⟩
        · right
          simpa [Value.ownBlock] using h5

theorem wp_app {P : Program} {w : World} {o : Oper} {a : Act} {K : Act → World → Prop} {Q : Exit → Act → World → Prop} {s x : Operand} {t : TypeId}
    (ho : o.op = .call { callee := .builtin .append, args := #[s, x], argTypes := #[t, t] }) {F : Nat → Prop} {e : TypeId} {size bytes : Nat} (T : SlT P t e size bytes) {A : Option Addr} {n c : Nat} {cs : List Value} (hs : a.eval s = .slice A n c) (h : Own w e size A n c cs)
    {A2 : Option Addr} {m c2 : Nat} {news : List Value} (hx : a.eval x = .slice A2 m c2) (hr : Sl w F A2 news) (hl : news.length = m * size) (h1 : ∀ u ∈ news, u.oneCell' = true) (h63 : n + m ≤ maxLen) (hb : (n + m) * bytes ≤ 140737488355328)
    (k : ∀ A' c' w', Own w' e size A' (n + m) c' (cs ++ news) → Upd (At A) w w' → (∀ k, At A' k → At A k ∨ k = w.heap.size) → K (a.put o.dst (.slice A' (n + m) c')) w') : o.wp P a w K Q := by
  obtain ⟨A', c', w', hrun, h2, h3, h4⟩ := run_app (P := P) (ty := o.type) (c2 := c2) T h hr hl h1 h63 hb
  unfold Oper.wp execOp
  simp only [ho, resolve, invoke, builtin, Sem.run_bind, Sem.run_pure, Result.andThen_ok, List.map_toArray, List.map_cons, List.map_nil, hs, hx, hrun]
  exact k A' c' w' h2 h3 h4

theorem wpList_app {P : Program} {w : World} {ops : Array Oper} {rest : List Oper} {o : Oper} {a : Act} {Q : Exit → Act → World → Prop} (hgd : o.guard = none) {s x : Operand} {t : TypeId}
    (ho : o.op = .call { callee := .builtin .append, args := #[s, x], argTypes := #[t, t] }) {F : Nat → Prop} {e : TypeId} {size bytes : Nat} (T : SlT P t e size bytes) {A : Option Addr} {n c : Nat} {cs : List Value} (hs : a.eval s = .slice A n c) (h : Own w e size A n c cs)
    {A2 : Option Addr} {m c2 : Nat} {news : List Value} (hx : a.eval x = .slice A2 m c2) (hr : Sl w F A2 news) (hl : news.length = m * size) (h1 : ∀ u ∈ news, u.oneCell' = true) (h63 : n + m ≤ maxLen) (hb : (n + m) * bytes ≤ 140737488355328)
    (k : ∀ A' c' w', Own w' e size A' (n + m) c' (cs ++ news) → Upd (At A) w w' → (∀ k, At A' k → At A k ∨ k = w.heap.size) → wpList P ops Q rest (a.put o.dst (.slice A' (n + m) c')) w') : wpList P ops Q (o :: rest) a w :=
  wpList_plain hgd fun _ hK => wp_app ho T hs h hx hr hl h1 h63 hb fun A' c' w' h2 h3 h4 => hK _ _ (k A' c' w' h2 h3 h4)

/-- A block just made, as a source. -/
theorem Sl.new (w : World) (t : TypeId) (cs : List Value) : Sl (w.alloc (.cells cs.toArray t)) (· = w.heap.size) (some ⟨w.heap.size, 0, none⟩) cs := by
  have := Sl.of_blk (F := (· = w.heap.size)) rfl (Blk.new w t cs.toArray) cs.length
  simpa using this

/-! Slices of int and int64 -/
def Ints (w : World) (F : Nat → Prop) (A : Option Addr) (xs : List Int) : Prop := Sl w F A (xs.map fun x => Value.int .i64 x)
section
variable {w w' : World} {F G S : Nat → Prop} {A : Option Addr} {xs : List Int}
theorem Ints.nil : Ints w F A [] := .inl rfl
theorem Ints.mono (h : Ints w F A xs) (hFG : ∀ k, k < w.heap.size → F k → G k) : Ints w G A xs := Sl.mono h hFG
theorem Ints.upd (h : Ints w F A xs) (u : Upd S w w') (d : ∀ k, k < w.heap.size → F k → ¬ S k) : Ints w' F A xs := Sl.upd h u d
theorem Ints.at_ {k : Nat} (h : Ints w F A xs) (hk : k < xs.length) : ∃ b off, A = some ⟨b, off, none⟩ ∧ F b ∧ b < w.heap.size ∧ w.cell? ⟨b, off + k, none⟩ = some (.int .i64 xs[k]) := by
  obtain ⟨b, off, e, hF, hb, hc⟩ := Sl.at_ h (k := k) (by simpa using hk)
  exact ⟨b, off, e, hF, hb, by simpa using hc⟩
end

/-! A string out of bytes -/
def bstr (ns : List Int) : ByteArray := ⟨(ns.map fun n => UInt8.ofNat n.toNat).toArray⟩
theorem foldl_bstr (ns : List Int) : ∀ r : ByteArray, ns.foldl (fun r n => r.push (UInt8.ofNat n.toNat)) r = ⟨r.data ++ (ns.map fun n => UInt8.ofNat n.toNat).toArray⟩ := by
  induction ns with
  | nil => intro r; simp
  | cons n ns ih =>
    intro r
    rw [List.foldl_cons, ih]
    congr 1
    simp [ByteArray.push]
theorem run_str {P : Program} {w : World} {F : Nat → Prop} {src dst e : TypeId} (hs : P.underlying src = some (.slice e)) (he : P.underlying e = some (.int .u8)) (hd : P.underlying dst = some .string)
    {A : Option Addr} {n c : Nat} {ns : List Int} (h : Sl w F A (ns.map fun x => Value.int .u8 x)) (hn : n = ns.length) : (convert src dst (.slice A n c)).run P w = .ok (.string (bstr ns)) w := by
  subst hn
  rw [run_convert_bytes_string w src dst e A _ c hs he hd]
  rcases h with h | ⟨b, off, rfl, _, hc⟩
  · have : ns = [] := by simpa using h
    subst this
    cases A with
    | none => simp [Conv.bytesToString, bstr]; rfl
    | some a => simp [Conv.bytesToString, bstr, loadCells, loadCellsFrom]; rfl
  · have hl := run_loadCells_list (P := P) (w := w) ⟨b, off, none⟩ (ns.map fun x => Value.int .u8 x) (fun j v hv => by
      obtain ⟨hj, rfl⟩ := List.getElem?_eq_some_iff.1 hv
      rw [Addr.add_lit]
      exact hc j hj)
    rw [List.length_map] at hl
    rw [run_bytesToString w _ _ c ns hl, foldl_bstr]
    simp [bstr]

theorem below_size {B : Nat} {w w' : World} (h : Below B w w') : w.heap.size ≤ w'.heap.size := h.size

end Go.Proofs.Ytnefhokojbkppaa
