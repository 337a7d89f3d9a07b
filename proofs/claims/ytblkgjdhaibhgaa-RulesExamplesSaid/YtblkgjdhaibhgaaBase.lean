/-
  Words for memory, over any program: what stays (Upd), a block known whole (Blk), a slice that reads as cells (Sl), a slice that the call owns and appends to (Own). No condition of its own.
  Congruence closure, in plain Lean: the smallest relation that contains given pairs and is closed under congruence, as the function to the smallest node of each class. No program in sight.
  What the reference's and the generator's small functions compute, in plain Lean. No program in sight.
  The sorts of a list of nodes, in plain Lean.
  Slices of nodes and of pairs, as they lie in memory. No condition of its own.
  In a region that draws its order, what runs alike in every world of S may be taken first: a call that leaves the world as it is, too. No condition of its own.
  Small laws that every chapter uses. No condition of its own.
-/
import Derived.WalkKit
import Derived.WalkSpells
import Derived.WalkLawsBesides
import Derived.Lib.Hide
import Derived.Maps.AppendAt
import Derived.Deep.Draws
import Derived.Laws.MakeOwn
import Derived.Deep.LoopGhost
import Derived.Deep.QuietTactic
import Derived.BigQuiet
import Derived.Deep.DeepCutAuto
import Derived.OrdersHeld
import Derived.Test.YtblkgjdhaibhgaaProg
import Derived.Deep.CutBlock
import Derived.Deep.RegionHeld3
import Derived.IntWalk
namespace Go.Proofs.Ytblkgjdhaibhgaa
open Go.RowKit

/-- Blocks outside S are as they were; the streams too; no block has gone. -/
structure Upd (S : Nat → Prop) (w w' : World) : Prop where
  os : w'.os = w.os
  tape : w'.tape = w.tape
  output : w'.output = w.output
  size : w.heap.size ≤ w'.heap.size
  block : ∀ k, k < w.heap.size → ¬ S k → w'.heap[k]? = w.heap[k]?

/-- No old block has turned. -/
def Non : Nat → Prop := fun _ => False

theorem Upd.refl {S : Nat → Prop} {w : World} : Upd S w w := ⟨rfl, rfl, rfl, Nat.le_refl _, fun _ _ _ => rfl⟩
theorem Upd.trans {S T : Nat → Prop} {a b c : World} (h : Upd S a b) (k : Upd T b c) (hT : ∀ i, i < a.heap.size → T i → S i) : Upd S a c :=
  ⟨k.os.trans h.os, k.tape.trans h.tape, k.output.trans h.output, Nat.le_trans h.size k.size, fun i hi hn => (k.block i (Nat.lt_of_lt_of_le hi h.size) (fun t => hn (hT i hi t))).trans (h.block i hi hn)⟩
theorem Upd.mono {S T : Nat → Prop} {a b : World} (h : Upd S a b) (hT : ∀ i, i < a.heap.size → S i → T i) : Upd T a b :=
  ⟨h.os, h.tape, h.output, h.size, fun i hi hn => h.block i hi (fun s => hn (hT i hi s))⟩
theorem Upd.then_non {S : Nat → Prop} {a b c : World} (h : Upd S a b) (k : Upd Non b c) : Upd S a c := h.trans k (fun _ _ f => f.elim)
theorem Upd.alloc {S : Nat → Prop} {a w : World} (h : Upd S a w) (o : Obj) : Upd S a (w.alloc o) :=
  ⟨h.os, h.tape, h.output, Nat.le_trans h.size (by simp), fun i hi hn => (Below.heap_alloc w o i (Nat.lt_of_lt_of_le hi h.size)).trans (h.block i hi hn)⟩
theorem Upd.setCell {S : Nat → Prop} {a w : World} (h : Upd S a w) {p : Addr} (hp : S p.block ∨ a.heap.size ≤ p.block) (u : Value) : Upd S a (w.setCell p u) :=
  ⟨h.os, h.tape, h.output, by simpa [World.setCell] using h.size, fun k hk hn => (Below.heap_setCell w p u k (by rintro rfl; rcases hp with hp | hp; exact hn hp; omega)).trans (h.block k hk hn)⟩
theorem Upd.drew {S : Nat → Prop} {a w : World} (h : Upd S a w) : Upd S a w.drew := ⟨h.os, h.tape, h.output, h.size, h.block⟩
theorem Upd.drewN {S : Nat → Prop} {a w : World} (h : Upd S a w) (n : Nat) : Upd S a (w.drewN n) := ⟨h.os, h.tape, h.output, h.size, h.block⟩
theorem Upd.of_grown {w w' : World} {row : Option Nat} (hg : w.grownBy w' row) : Upd (fun k => some k = row) w w' := ⟨hg.os, hg.tape, hg.output, hg.size, hg.block⟩
theorem Upd.toBelow {w w' : World} (h : Upd Non w w') : Below w.heap.size w w' := ⟨h.os, h.tape, h.output, h.size, fun k hk => h.block k hk (fun f => f)⟩
theorem Upd.of_below {w w' : World} (h : Below w.heap.size w w') : Upd Non w w' := ⟨h.os, h.tape, h.output, h.size, fun k hk _ => h.block k hk⟩
theorem Upd.below {S : Nat → Prop} {B : Nat} {a b c : World} (h : Below B a b) (k : Upd S b c) (hB : B ≤ b.heap.size) (hS : ∀ i, i < B → ¬ S i) : Below B a c :=
  h.trans ⟨k.os, k.tape, k.output, k.size, fun i hi => k.block i (by omega) (hS i hi)⟩

/-! A block known whole -/
def Blk (w : World) (g : Nat) (t : TypeId) (cs : Array Value) : Prop := w.heap[g]? = some (.cells cs t (0, 0))
section
variable {w w' : World} {g : Nat} {t : TypeId} {cs : Array Value}
theorem lt_of_heap {o : Obj} (h : w.heap[g]? = some o) : g < w.heap.size := by
  rcases Nat.lt_or_ge g w.heap.size with hlt | hge
  · exact hlt
  · rw [Array.getElem?_eq_none hge] at h; cases h
theorem Blk.lt (h : Blk w g t cs) : g < w.heap.size := lt_of_heap h
theorem Blk.cell (h : Blk w g t cs) (i : Nat) : w.cell? ⟨g, i, none⟩ = cs[i]? := cell_of_row w g i cs t (0, 0) h
theorem Blk.frozen (h : Blk w g t cs) (i : Nat) : w.frozen? ⟨g, i, none⟩ = false := by
  unfold Blk at h
  simp [World.frozen?, h]
theorem Blk.new (w : World) (t : TypeId) (cs : Array Value) : Blk (w.alloc (.cells cs t)) w.heap.size t cs := heap_alloc_new w _
theorem Blk.drew (h : Blk w g t cs) : Blk w.drew g t cs := h
theorem Blk.drewN (h : Blk w g t cs) (n : Nat) : Blk (w.drewN n) g t cs := h
theorem Blk.alloc (h : Blk w g t cs) (o : Obj) : Blk (w.alloc o) g t cs := (Below.heap_alloc w o g h.lt).trans h
theorem Blk.set_ (h : Blk w g t cs) (i : Nat) (u : Value) : Blk (w.setCell ⟨g, i, none⟩ u) g t (cs.setIfInBounds i u) := by
  unfold Blk at h ⊢
  simp [World.setCell, Array.getElem?_modify, h]
theorem Blk.far (h : Blk w g t cs) {p : Addr} (hp : g ≠ p.block) (u : Value) : Blk (w.setCell p u) g t cs := (Below.heap_setCell w p u g hp).trans h
theorem Blk.upd {S : Nat → Prop} (h : Blk w g t cs) (u : Upd S w w') (hS : ¬ S g) : Blk w' g t cs := (u.block g h.lt hS).trans h
theorem Blk.ne_ {g' : Nat} {t' : TypeId} {cs' : Array Value} (h : Blk w g t cs) (h' : Blk w g' t' cs') (hne : t ≠ t') : g ≠ g' := by
  rintro rfl
  unfold Blk at h h'
  rw [h] at h'
  injection h' with h'
  injection h' with _ ht
  exact hne ht
end

/-! A slice that reads as cells: nothing is known of the address where there is no cell -/
def Sl (w : World) (F : Nat → Prop) (A : Option Addr) (cs : List Value) : Prop :=
  cs = [] ∨ ∃ b off, A = some ⟨b, off, none⟩ ∧ F b ∧ ∀ j (h : j < cs.length), w.cell? ⟨b, off + j, none⟩ = some cs[j]
section
variable {w w' : World} {F G S : Nat → Prop} {A : Option Addr} {cs : List Value}
theorem Sl.nil : Sl w F A [] := .inl rfl
theorem Sl.mono (h : Sl w F A cs) (hFG : ∀ k, k < w.heap.size → F k → G k) : Sl w G A cs := by
  rcases h with h | ⟨b, off, e, hF, hc⟩
  · exact .inl h
  · by_cases hn : cs = []
    · exact .inl hn
    · have h0 : 0 < cs.length := List.length_pos_iff.2 hn
      exact .inr ⟨b, off, e, hFG b (World.block_lt_of_cell? w _ (hc 0 h0)) hF, hc⟩
theorem Sl.upd (h : Sl w F A cs) (u : Upd S w w') (d : ∀ k, k < w.heap.size → F k → ¬ S k) : Sl w' F A cs := by
  rcases h with h | ⟨b, off, e, hF, hc⟩
  · exact .inl h
  · refine .inr ⟨b, off, e, hF, fun j hj => ?_⟩
    have hlt : b < w.heap.size := World.block_lt_of_cell? w _ (hc j hj)
    rw [World.cell?_of_block (w := w) (u.block b hlt (d b hlt hF))]
    exact hc j hj
theorem Sl.at_ {k : Nat} (h : Sl w F A cs) (hk : k < cs.length) : ∃ b off, A = some ⟨b, off, none⟩ ∧ F b ∧ b < w.heap.size ∧ w.cell? ⟨b, off + k, none⟩ = some cs[k] := by
  rcases h with h | ⟨b, off, e, hF, hc⟩
  · subst h; simp at hk
  · exact ⟨b, off, e, hF, World.block_lt_of_cell? w _ (hc k hk), hc k hk⟩
theorem Sl.of_blk {g : Nat} {t : TypeId} {cur : Array Value} (hF : F g) (h : Blk w g t cur) (n : Nat) : Sl w F (some ⟨g, 0, none⟩) (cur.toList.take n) :=
  .inr ⟨g, 0, rfl, hF, fun j hj => by rw [h.cell]; simp at hj ⊢⟩
end

/-! The block of an address -/
def At (A : Option Addr) (k : Nat) : Prop := ∃ o s, A = some ⟨k, o, s⟩
theorem At.none_ {k : Nat} : ¬ At none k := fun ⟨_, _, h⟩ => by cases h
theorem At.some_ {g k o : Nat} {s : Option Nat} : At (some ⟨g, o, s⟩) k ↔ k = g := ⟨fun ⟨_, _, h⟩ => by injection h with h; injection h with h; exact h.symm, fun h => ⟨o, s, by rw [h]⟩⟩

/-! A slice that the call owns: it begins at the head of a block -/
def Own (w : World) (e : TypeId) (size : Nat) (A : Option Addr) (n c : Nat) (cs : List Value) : Prop := w.ownsRow 0 e size (.slice A n c) n cs

/-- What the append law asks of the types. -/
structure SlT (P : Program) (t e : TypeId) (size bytes : Nat) : Prop where
  und : P.underlying t = some (.slice e)
  info : ∃ i z, P.info? e = some i ∧ i.zero = some z ∧ i.size = size ∧ i.bytes = bytes ∧ z.cells.size = size
  pos : 0 < size

section
variable {w w' : World} {e : TypeId} {size : Nat} {A : Option Addr} {n c : Nat} {cs : List Value} {S : Nat → Prop}
theorem Own.none_ : Own w e size none 0 0 [] := ⟨by simp, .inl ⟨rfl, rfl⟩⟩
theorem Own.len (h : Own w e size A n c cs) : cs.length = n * size := h.1
theorem Own.cases (h : Own w e size A n c cs) : (A = none ∧ n = 0 ∧ c = 0 ∧ cs = []) ∨ ∃ g cur, A = some ⟨g, 0, none⟩ ∧ Blk w g e cur ∧ n ≤ c ∧ c ≤ maxLen ∧ cur.size = c * size ∧ cur.toList.take (n * size) = cs := by
  obtain ⟨h1, h2⟩ := h
  rcases h2 with ⟨hv, h0⟩ | ⟨g, cap, cur, hv, _, hg, hn, hm, hs, ht⟩
  · left
    injection hv with a b d
    subst h0
    exact ⟨a, rfl, d, List.eq_nil_of_length_eq_zero (by simpa using h1)⟩
  · right
    injection hv with a b d
    subst a; subst d
    exact ⟨g, cur, rfl, hg, hn, hm, hs, ht⟩
theorem Own.mk_ {g : Nat} {cur : Array Value} (hb : Blk w g e cur) (hn : n ≤ c) (hm : c ≤ maxLen) (hs : cur.size = c * size) (ht : cur.toList.take (n * size) = cs) : Own w e size (some ⟨g, 0, none⟩) n c cs := by
  refine ⟨?_, .inr ⟨g, c, cur, rfl, Nat.zero_le _, hb, hn, hm, hs, ht⟩⟩
  rw [← ht, List.length_take, Array.length_toList, hs]
  exact Nat.min_eq_left (Nat.mul_le_mul_right _ hn)
theorem Own.lt (h : Own w e size A n c cs) {k : Nat} (hk : At A k) : k < w.heap.size := by
  rcases h.cases with ⟨rfl, _⟩ | ⟨g, cur, rfl, hb, _⟩
  · exact (At.none_ hk).elim
  · rw [At.some_] at hk; subst hk; exact hb.lt
theorem Own.sl (h : Own w e size A n c cs) : Sl w (At A) A cs := by
  rcases h.cases with ⟨_, _, _, h0⟩ | ⟨g, cur, rfl, hb, _, _, _, ht⟩
  · exact .inl h0
  · rw [← ht]; exact Sl.of_blk (At.some_.2 rfl) hb _
theorem Own.upd (h : Own w e size A n c cs) (u : Upd S w w') (d : ∀ k, At A k → ¬ S k) : Own w' e size A n c cs := by
  rcases h.cases with ⟨rfl, rfl, rfl, rfl⟩ | ⟨g, cur, rfl, hb, hn, hm, hs, ht⟩
  · exact Own.none_
  · exact Own.mk_ (hb.upd u (d g (At.some_.2 rfl))) hn hm hs ht
theorem Own.alloc (h : Own w e size A n c cs) (o : Obj) : Own (w.alloc o) e size A n c cs := h.upd (Upd.refl.alloc o (S := Non)) (fun _ _ f => f)
theorem Own.drew (h : Own w e size A n c cs) : Own w.drew e size A n c cs := h
theorem Own.drewN (h : Own w e size A n c cs) (k : Nat) : Own (w.drewN k) e size A n c cs := h
theorem Own.ne_type {e' : TypeId} {size' n' c' : Nat} {A' : Option Addr} {cs' : List Value} (h : Own w e size A n c cs) (h' : Own w e' size' A' n' c' cs') (hne : e ≠ e') {k : Nat} (hk : At A k) : ¬ At A' k := by
  rcases h.cases with ⟨rfl, _⟩ | ⟨g, cur, rfl, hb, _⟩
  · exact (At.none_ hk).elim
  · rcases h'.cases with ⟨rfl, _⟩ | ⟨g', cur', rfl, hb', _⟩
    · exact At.none_
    · rw [At.some_] at hk ⊢; subst hk; exact hb.ne_ hb' hne
theorem Own.ne_blk {g : Nat} {t : TypeId} {cur : Array Value} (h : Own w e size A n c cs) (h' : Blk w g t cur) (hne : e ≠ t) : ¬ At A g := by
  rcases h.cases with ⟨rfl, _⟩ | ⟨g', cur', rfl, hb, _⟩
  · exact At.none_
  · rw [At.some_]; exact (hb.ne_ h' hne).symm
end

/-- append, the source a slice that reads as cells. -/
theorem run_app {P : Program} {w : World} {F : Nat → Prop} {t ty e : TypeId} {size bytes : Nat} (T : SlT P t e size bytes) {A : Option Addr} {n c : Nat} {cs : List Value} (h : Own w e size A n c cs)
    {A2 : Option Addr} {m c2 : Nat} {news : List Value} (hr : Sl w F A2 news) (hl : news.length = m * size) (h1 : ∀ u ∈ news, u.oneCell' = true) (h63 : n + m ≤ maxLen) (hb : (n + m) * bytes ≤ 140737488355328) :
    ∃ A' c' w', (Builtin.append_ #[t, t] ty #[.slice A n c, .slice A2 m c2]).run P w = .ok (.slice A' (n + m) c') w' ∧ Own w' e size A' (n + m) c' (cs ++ news) ∧ Upd (At A) w w' ∧ (∀ k, At A' k → At A k ∨ k = w.heap.size) := by
  obtain ⟨ht, ⟨i, z, hi, hz, hsz, hby, hzs⟩, hpos⟩ := T
  by_cases hm : m = 0
  · subst hm
    have hn : news = [] := List.eq_nil_of_length_eq_zero (by simpa using hl)
    subst hn
    refine ⟨A, c, w, ?_, by simpa using h, Upd.refl, fun k hk => .inl hk⟩
    rcases h.cases with ⟨rfl, rfl, rfl, rfl⟩ | ⟨g, cur, rfl, hb, hn, hm, hs, ht'⟩
    · cases A2 <;> simp [Builtin.append_, run_underlying ht, sizeOf, typeInfo, hi, Builtin.lenOf, Builtin.firstCells, loadCells, loadCellsFrom]
    · cases A2 <;> simp [Builtin.append_, run_underlying ht, sizeOf, typeInfo, hi, Builtin.lenOf, Builtin.firstCells, hn, storeCells, loadCells, loadCellsFrom]
  · rcases hr with hr | ⟨b, off, rfl, _, hc⟩
    · subst hr
      have : m * size = 0 := by simpa using hl.symm
      rcases Nat.mul_eq_zero.1 this with h0 | h0 <;> omega
    · have hnews : ∀ j u, news[j]? = some u → w.cell? ((⟨b, off, none⟩ : Addr).add j) = some u := by
        intro j u hu
        obtain ⟨hj, rfl⟩ := List.getElem?_eq_some_iff.1 hu
        rw [Addr.add_lit]
        exact hc j hj
      obtain ⟨v', w', hrun, h2, h3, _, h5⟩ := run_append_own_at (P := P) w 0 t ty e i z size bytes ht hi hz hsz hby hzs hpos (.slice A n c) n cs h ⟨b, off, none⟩ m c2 news hl hnews h1 h63 hb (Nat.zero_le _)
      obtain ⟨g, cap, rfl, _, _⟩ : ∃ g cap, v' = .slice (some ⟨g, 0, none⟩) (n + m) cap ∧ True ∧ True := by
        rcases h2.2 with ⟨_, h0⟩ | ⟨g, cap, cur, hv, _⟩
        · omega
        · exact ⟨g, cap, hv, trivial, trivial⟩
      refine ⟨_, _, w', hrun, h2, (Upd.of_grown h3).mono (fun k _ hk => ?_), fun k hk => ?_⟩
      · cases A with
        | none => simp [Value.ownBlock] at hk
        | some a => exact ⟨a.off, a.spot, by simp [Value.ownBlock] at hk; subst hk; rfl⟩
      · rw [At.some_] at hk
        subst hk
        rcases h5 with h5 | h5
        · left
          cases A with
          | none => simp [Value.ownBlock] at h5
          | some a => exact ⟨a.off, a.spot, by simp [Value.ownBlock] at h5; subst h5; rfl⟩
        · right
          simpa [Value.ownBlock] using h5

theorem wp_app {P : Program} {w : World} {o : Oper} {a : Act} {K : Act → World → Prop} {Q : Exit → Act → World → Prop} {s x : Operand} {t : TypeId}
    (ho : o.op = .call { callee := .builtin .append, args := #[s, x], argTypes := #[t, t] }) {F : Nat → Prop} {e : TypeId} {size bytes : Nat} (T : SlT P t e size bytes) {A : Option Addr} {n c : Nat} {cs : List Value} (hs : a.eval s = .slice A n c) (h : Own w e size A n c cs)
    {A2 : Option Addr} {m c2 : Nat} {news : List Value} (hx : a.eval x = .slice A2 m c2) (hr : Sl w F A2 news) (hl : news.length = m * size) (h1 : ∀ u ∈ news, u.oneCell' = true) (h63 : n + m ≤ maxLen) (hb : (n + m) * bytes ≤ 140737488355328)
    (k : ∀ A' c' w', Own w' e size A' (n + m) c' (cs ++ news) → Upd (At A) w w' → (∀ k, At A' k → At A k ∨ k = w.heap.size) → K (a.put o.dst (.slice A' (n + m) c')) w') : o.wp P a w K Q := by
  obtain ⟨A', c', w', hrun, h2, h3, h4⟩ := run_app (P := P) (ty := o.type) (c2 := c2) T h hr hl h1 h63 hb
  unfold Oper.wp execOp
  simp only [ho, resolve, invoke, builtin, Sem.run_bind, Sem.run_pure, Result.andThen_ok, List.map_toArray, List.map_cons, List.map_nil, hs, hx, hrun]
  exact k A' c' w' h2 h3 h4

theorem wpList_app {P : Program} {w : World} {ops : Array Oper} {rest : List Oper} {o : Oper} {a : Act} {Q : Exit → Act → World → Prop} (hgd : o.guard = none) {s x : Operand} {t : TypeId}
    (ho : o.op = .call { callee := .builtin .append, args := #[s, x], argTypes := #[t, t] }) {F : Nat → Prop} {e : TypeId} {size bytes : Nat} (T : SlT P t e size bytes) {A : Option Addr} {n c : Nat} {cs : List Value} (hs : a.eval s = .slice A n c) (h : Own w e size A n c cs)
    {A2 : Option Addr} {m c2 : Nat} {news : List Value} (hx : a.eval x = .slice A2 m c2) (hr : Sl w F A2 news) (hl : news.length = m * size) (h1 : ∀ u ∈ news, u.oneCell' = true) (h63 : n + m ≤ maxLen) (hb : (n + m) * bytes ≤ 140737488355328)
    (k : ∀ A' c' w', Own w' e size A' (n + m) c' (cs ++ news) → Upd (At A) w w' → (∀ k, At A' k → At A k ∨ k = w.heap.size) → wpList P ops Q rest (a.put o.dst (.slice A' (n + m) c')) w') : wpList P ops Q (o :: rest) a w :=
  wpList_plain hgd fun _ hK => wp_app ho T hs h hx hr hl h1 h63 hb fun A' c' w' h2 h3 h4 => hK _ _ (k A' c' w' h2 h3 h4)

/-- A block just made, as a source. -/
theorem Sl.new (w : World) (t : TypeId) (cs : List Value) : Sl (w.alloc (.cells cs.toArray t)) (· = w.heap.size) (some ⟨w.heap.size, 0, none⟩) cs := by
  have := Sl.of_blk (F := (· = w.heap.size)) rfl (Blk.new w t cs.toArray) cs.length
  simpa using this

/-! Slices of int and int64 -/
def Ints (w : World) (F : Nat → Prop) (A : Option Addr) (xs : List Int) : Prop := Sl w F A (xs.map fun x => Value.int .i64 x)
section
variable {w w' : World} {F G S : Nat → Prop} {A : Option Addr} {xs : List Int}
theorem Ints.nil : Ints w F A [] := .inl rfl
theorem Ints.mono (h : Ints w F A xs) (hFG : ∀ k, k < w.heap.size → F k → G k) : Ints w G A xs := Sl.mono h hFG
theorem Ints.upd (h : Ints w F A xs) (u : Upd S w w') (d : ∀ k, k < w.heap.size → F k → ¬ S k) : Ints w' F A xs := Sl.upd h u d
theorem Ints.at_ {k : Nat} (h : Ints w F A xs) (hk : k < xs.length) : ∃ b off, A = some ⟨b, off, none⟩ ∧ F b ∧ b < w.heap.size ∧ w.cell? ⟨b, off + k, none⟩ = some (.int .i64 xs[k]) := by
  obtain ⟨b, off, e, hF, hb, hc⟩ := Sl.at_ h (k := k) (by simpa using hk)
  exact ⟨b, off, e, hF, hb, by simpa using hc⟩
end

/-! A string out of bytes -/
def bstr (ns : List Int) : ByteArray := ⟨(ns.map fun n => UInt8.ofNat n.toNat).toArray⟩
theorem foldl_bstr (ns : List Int) : ∀ r : ByteArray, ns.foldl (fun r n => r.push (UInt8.ofNat n.toNat)) r = ⟨r.data ++ (ns.map fun n => UInt8.ofNat n.toNat).toArray⟩ := by
  induction ns with
  | nil => intro r; simp
  | cons n ns ih =>
    intro r
    rw [List.foldl_cons, ih]
    congr 1
    simp [ByteArray.push]
theorem run_str {P : Program} {w : World} {F : Nat → Prop} {src dst e : TypeId} (hs : P.underlying src = some (.slice e)) (he : P.underlying e = some (.int .u8)) (hd : P.underlying dst = some .string)
    {A : Option Addr} {n c : Nat} {ns : List Int} (h : Sl w F A (ns.map fun x => Value.int .u8 x)) (hn : n = ns.length) : (convert src dst (.slice A n c)).run P w = .ok (.string (bstr ns)) w := by
  subst hn
  rw [run_convert_bytes_string w src dst e A _ c hs he hd]
  rcases h with h | ⟨b, off, rfl, _, hc⟩
  · have : ns = [] := by simpa using h
    subst this
    cases A with
    | none => simp [Conv.bytesToString, bstr]; rfl
    | some a => simp [Conv.bytesToString, bstr, loadCells, loadCellsFrom]; rfl
  · have hl := run_loadCells_list (P := P) (w := w) ⟨b, off, none⟩ (ns.map fun x => Value.int .u8 x) (fun j v hv => by
      obtain ⟨hj, rfl⟩ := List.getElem?_eq_some_iff.1 hv
      rw [Addr.add_lit]
      exact hc j hj)
    rw [List.length_map] at hl
    rw [run_bytesToString w _ _ c ns hl, foldl_bstr]
    simp [bstr]

theorem below_size {B : Nat} {w w' : World} (h : Below B w w') : w.heap.size ≤ w'.heap.size := h.size

end Go.Proofs.Ytblkgjdhaibhgaa

namespace Go.Proofs.Ytblkgjdhaibhgaa

/-- A node: its operation, its immediate operand, its operands. -/
structure Nd where
  op : Int
  imm : Int
  kids : List Int

def okKids (n : Nat) (kids : List Int) : Bool := kids.all fun x => decide (0 ≤ x) && decide (x < n)
def kidCs (c : Nat → Nat) (kids : List Int) : List Nat := kids.map fun x => c x.toNat

/-- Two classes joined. -/
def joinc (c : Nat → Nat) (a b : Nat) : Nat → Nat := fun x => if c x = max (c a) (c b) then min (c a) (c b) else c x

theorem joinc_same {c : Nat → Nat} {i j : Nat} (h : c i = c j) : joinc c i j = c := by
  funext x
  unfold joinc
  rw [h, Nat.max_self, Nat.min_self]
  split <;> simp_all
theorem joinc_comm (c : Nat → Nat) (i j : Nat) : joinc c i j = joinc c j i := by
  funext x
  unfold joinc
  rw [Nat.max_comm, Nat.min_comm]

/-- Each class is named by its smallest node. -/
structure Named (n : Nat) (c : Nat → Nat) : Prop where
  le : ∀ k, k < n → c k ≤ k
  idem : ∀ k, k < n → c (c k) = c k

theorem Named.id (n : Nat) : Named n id := ⟨fun _ _ => Nat.le_refl _, fun _ _ => rfl⟩
theorem Named.lt {n : Nat} {c : Nat → Nat} (h : Named n c) {k : Nat} (hk : k < n) : c k < n := by have := h.le k hk; omega
theorem Named.join {n : Nat} {c : Nat → Nat} (h : Named n c) {a b : Nat} (ha : a < n) (hb : b < n) : Named n (joinc c a b) := by
  by_cases hne : c a = c b
  · rw [joinc_same hne]; exact h
  have ca := h.le a ha
  have cb := h.le b hb
  have ia := h.idem a ha
  have ib := h.idem b hb
  have hmin : c (min (c a) (c b)) = min (c a) (c b) := by
    rcases Nat.le_total (c a) (c b) with q | q
    · rw [Nat.min_eq_left q, ia]
    · rw [Nat.min_eq_right q, ib]
  refine ⟨fun k hk => ?_, fun k hk => ?_⟩
  · have := h.le k hk
    unfold joinc; split <;> omega
  · unfold joinc
    by_cases q : c k = max (c a) (c b)
    · simp only [q, if_true]; rw [hmin, if_neg (by omega)]
    · simp only [q, if_false]; rw [h.idem k hk, if_neg q]

theorem joinc_pair {c : Nat → Nat} (a b : Nat) : joinc c a b a = joinc c a b b := by
  unfold joinc
  rcases Nat.le_total (c a) (c b) with h | h
  · rw [Nat.max_eq_right h, Nat.min_eq_left h]; split <;> simp_all
  · rw [Nat.max_eq_left h, Nat.min_eq_right h]; split <;> simp_all
theorem joinc_keeps {c : Nat → Nat} {a b x y : Nat} (h : c x = c y) : joinc c a b x = joinc c a b y := by
  unfold joinc; rw [h]
theorem joinc_eq {c : Nat → Nat} {a b x y : Nat} (h : joinc c a b x = joinc c a b y) : c x = c y ∨ (c x = c a ∧ c y = c b) ∨ (c x = c b ∧ c y = c a) := by
  unfold joinc at h
  split at h <;> split at h <;> omega

/-- How many classes there are. -/
def roots (n : Nat) (c : Nat → Nat) : Nat := ((List.range n).filter fun k => c k == k).length
theorem filter_lt {α : Type} (p q : α → Bool) : ∀ (l : List α) (x : α), x ∈ l → p x = false → q x = true → (∀ y ∈ l, p y = true → q y = true) → (l.filter p).length < (l.filter q).length
  | [], x, hx, _, _, _ => by cases hx
  | a :: l, x, hx, hp, hq, h => by
    have hle : ∀ l : List α, (∀ y ∈ l, p y = true → q y = true) → (l.filter p).length ≤ (l.filter q).length := by
      intro l hl
      induction l with
      | nil => simp
      | cons b l ih =>
        have := ih (fun y hy => hl y (by simp [hy]))
        have hb := hl b (by simp)
        cases hpb : p b <;> cases hqb : q b <;> simp_all <;> omega
    have hl := hle l (fun y hy => h y (by simp [hy]))
    rcases List.mem_cons.1 hx with rfl | hx
    · simp [hp, hq]; omega
    · have ih := filter_lt p q l x hx hp hq (fun y hy => h y (by simp [hy]))
      have ha := h a (by simp)
      cases hpa : p a <;> cases hqa : q a <;> simp_all <;> omega
theorem roots_join {n : Nat} {c : Nat → Nat} (h : Named n c) {a b : Nat} (ha : a < n) (hb : b < n) (hne : c a ≠ c b) : roots n (joinc c a b) < roots n c := by
  have ca := h.lt ha
  have cb := h.lt hb
  have ia := h.idem a ha
  have ib := h.idem b hb
  refine filter_lt _ _ _ (max (c a) (c b)) (by simp; omega) ?_ ?_ ?_
  · have hm : c (max (c a) (c b)) = max (c a) (c b) := by
      rcases Nat.le_total (c a) (c b) with q | q
      · rw [Nat.max_eq_right q, ib]
      · rw [Nat.max_eq_left q, ia]
    simp only [joinc, hm, if_true, beq_eq_false_iff_ne]
    omega
  · have hm : c (max (c a) (c b)) = max (c a) (c b) := by
      rcases Nat.le_total (c a) (c b) with q | q
      · rw [Nat.max_eq_right q, ib]
      · rw [Nat.max_eq_left q, ia]
    simp [hm]
  · intro y hy hj
    simp only [List.mem_range] at hy
    simp only [beq_iff_eq] at hj ⊢
    unfold joinc at hj
    have := h.le y hy
    split at hj
    · omega
    · exact hj

/-- Same operation, immediate operand and number of operands, all operands in range and pairwise equivalent. -/
def Cg (n : Nat) (c : Nat → Nat) (a b : Nd) : Prop :=
  a.op = b.op ∧ a.imm = b.imm ∧ okKids n a.kids = true ∧ okKids n b.kids = true ∧ kidCs c a.kids = kidCs c b.kids

def inR (n : Nat) (x : Int) : Prop := 0 ≤ x ∧ x < n

/-- d does not separate the pairs, nor congruent nodes. -/
structure Resp (L : List Nd) (ps : List (Int × Int)) (d : Nat → Nat) : Prop where
  pair : ∀ p ∈ ps, inR L.length p.1 → inR L.length p.2 → d p.1.toNat = d p.2.toNat
  cong : ∀ i j (hi : i < L.length) (hj : j < L.length), Cg L.length d L[i] L[j] → d i = d j

/-- c joins nothing that must not be joined. -/
def Snd (L : List Nd) (ps : List (Int × Int)) (c : Nat → Nat) : Prop :=
  ∀ d, Resp L ps d → ∀ i j, i < L.length → j < L.length → c i = c j → d i = d j

structure IsCl (L : List Nd) (ps : List (Int × Int)) (c : Nat → Nat) : Prop where
  named : Named L.length c
  resp : Resp L ps c
  snd : Snd L ps c

theorem IsCl.le_of {L : List Nd} {ps qs : List (Int × Int)} {c c' : Nat → Nat} (h : IsCl L ps c) (h' : IsCl L qs c') (hs : Resp L ps c') {k : Nat} (hk : k < L.length) : c' k ≤ c k := by
  have h1 := h.snd c' hs k (c k) hk (h.named.lt hk) (h.named.idem k hk).symm
  rw [h1]
  exact h'.named.le _ (h.named.lt hk)
theorem IsCl.unique {L : List Nd} {ps : List (Int × Int)} {c c' : Nat → Nat} (h : IsCl L ps c) (h' : IsCl L ps c') {k : Nat} (hk : k < L.length) : c k = c' k :=
  Nat.le_antisymm (h'.le_of h h.resp hk) (h.le_of h' h'.resp hk)

theorem Snd.id (L : List Nd) (ps : List (Int × Int)) : Snd L ps id := fun _ _ i j _ _ h => by
  have : i = j := h
  rw [this]
theorem Snd.join {L : List Nd} {ps : List (Int × Int)} {c : Nat → Nat} (h : Snd L ps c) {a b : Nat} (ha : a < L.length) (hb : b < L.length) (hd : ∀ d, Resp L ps d → d a = d b) : Snd L ps (joinc c a b) := by
  intro d hr i j hi hj he
  rcases joinc_eq he with h1 | ⟨h1, h2⟩ | ⟨h1, h2⟩
  · exact h d hr i j hi hj h1
  · rw [h d hr i a hi ha h1, h d hr j b hj hb h2, hd d hr]
  · rw [h d hr i b hi hb h1, h d hr j a hj ha h2, hd d hr]

theorem Cg.symm {n : Nat} {c : Nat → Nat} {a b : Nd} (h : Cg n c a b) : Cg n c b a := ⟨h.1.symm, h.2.1.symm, h.2.2.2.1, h.2.2.1, h.2.2.2.2.symm⟩

/-- Congruent for c, hence for every d that c is sound for. -/
theorem Snd.cg {L : List Nd} {ps : List (Int × Int)} {c : Nat → Nat} (h : Snd L ps c) {a b : Nd} (hc : Cg L.length c a b) {d : Nat → Nat} (hr : Resp L ps d) : Cg L.length d a b := by
  obtain ⟨h1, h2, h3, h4, h5⟩ := hc
  refine ⟨h1, h2, h3, h4, ?_⟩
  have hl : a.kids.length = b.kids.length := by simpa [kidCs] using congrArg List.length h5
  apply List.ext_getElem
  · simp [kidCs, hl]
  · intro i hi hi'
    have e := List.getElem_of_eq h5 (i := i) (by simpa [kidCs] using hi)
    simp only [kidCs, List.getElem_map] at e ⊢
    simp only [okKids, List.all_eq_true, Bool.and_eq_true, decide_eq_true_eq] at h3 h4
    have ka := h3 _ (List.getElem_mem (by simpa [kidCs] using hi : i < a.kids.length))
    have kb := h4 _ (List.getElem_mem (by simpa [kidCs] using hi' : i < b.kids.length))
    exact h d hr _ _ (by omega) (by omega) e

theorem okKids_get {n : Nat} {kids : List Int} (h : okKids n kids = true) {i : Nat} (hi : i < kids.length) : 0 ≤ kids[i] ∧ kids[i] < n := by
  simp only [okKids, List.all_eq_true, Bool.and_eq_true, decide_eq_true_eq] at h
  exact h _ (List.getElem_mem hi)

end Go.Proofs.Ytblkgjdhaibhgaa

namespace Go.Proofs.Ytblkgjdhaibhgaa

def I64 (x : Int) : Prop := -9223372036854775808 ≤ x ∧ x ≤ 9223372036854775807
theorem I64.tdiv {n : Int} (h : I64 n) (c : Nat) (hc : 2 ≤ c) : I64 (n.tdiv c) := by
  have h1 : (n.tdiv c).natAbs = n.natAbs / (c : Int).natAbs := Int.natAbs_tdiv n c
  have h2 : n.natAbs / (c : Int).natAbs ≤ n.natAbs / 2 := by
    rw [Int.natAbs_natCast]
    exact Nat.div_le_div_left hc (by omega)
  rw [← h1] at h2
  generalize n.tdiv c = q at *
  unfold I64 at *
  omega
theorem tmod_pick (n m : Int) (hm : 0 < m) : n % m = if n.tmod m < 0 then n.tmod m + m else n.tmod m := by
  have h1 := Int.tmod_lt_of_pos n hm
  have h2 := Int.lt_tmod_of_pos n hm
  have h3 : (n.tmod m) % m = n % m := by rw [Int.tmod_def, Int.sub_mul_emod_self_left]
  split
  · rw [← h3, ← Int.add_emod_right, Int.emod_eq_of_lt (by omega) (by omega)]
  · rw [← h3, Int.emod_eq_of_lt (by omega) (by omega)]
def arityF (op : Int) : Int × Bool :=
  if op = 1 ∨ op = 2 ∨ op = 3 ∨ op = 26 then (0, true)
  else if op = 20 ∨ op = 21 ∨ op = 24 ∨ op = 25 then (1, true)
  else if (4 ≤ op ∧ op ≤ 19) ∨ op = 23 ∨ op = 27 ∨ op = 29 then (2, true)
  else if op = 22 ∨ op = 28 then (3, true)
  else if op = 30 ∨ op = 31 then (-1, true)
  else (0, false)
def maxImmF (op : Int) : Int :=
  if op = 2 then 5 else if op = 3 then 255 else if op = 23 ∨ op = 28 then 3 else if op = 27 then 1000016 else if op = 30 then 7 else if op = 31 then 15 else if op = 25 then 15 else -1
def validImmF (op n : Int) : Bool :=
  if op = 1 then true else if maxImmF op < 0 then decide (n = 0) else decide (0 ≤ n ∧ n ≤ maxImmF op ∧ (op ≠ 27 ∨ 0 < n))
def pSortF (op : Int) : Int := if op = 27 ∨ op = 28 ∨ op = 29 then 2 else 1
def operandSortF (op k : Int) : Int := if k = 0 ∧ (pSortF op = 2 ∨ op = 23 ∨ op = 24) then 2 else 1
def sortIfF (b : Bool) (n : Int) : Int := if b then n else 0
def allOne (k : List Int) : Bool := k.all fun x => decide (x = 1)
def edgesF : List Int := [0, 1, -1, 2, -9223372036854775808, 9223372036854775807, 4294967296, -2147483648, 63, 64]
def wordF (n raw : Int) : Int := if n % 24 < 10 then edgesF.getD (n % 24).toNat 0 else if n % 24 < 22 then (n.tdiv 24) % 17 - 6 else raw

/-- The node is malformed by itself: its operation, the number of its operands or its immediate operand. -/
def badNode (op imm : Int) (kids : List Int) : Bool :=
  !(arityF op).2 || (decide (0 ≤ (arityF op).1) && decide ((kids.length : Int) ≠ (arityF op).1)) || !validImmF op imm
def goodSortF (L : List Nd) (op imm : Int) (kids k : List Int) : Int :=
  if op = 3 then (if imm.tmod 16 = 0 then 2 else 1)
  else if op = 26 then 2
  else if op = 22 then (if k.getD 0 0 ≠ 1 ∨ k.getD 1 0 ≠ k.getD 2 0 ∨ k.getD 1 0 = 3 then 0 else k.getD 1 0)
  else if op = 23 then sortIfF (decide (k.getD 0 0 = 2 ∧ k.getD 1 0 = 1)) 1
  else if op = 24 then sortIfF (decide (k.getD 0 0 = 2)) 1
  else if op = 25 then (if k.getD 0 0 ≠ 3 ∨ ((L.getD (kids.getD 0 0).toNat ⟨0, 0, []⟩).kids.length : Int) / 2 ≤ imm then 0 else sortIfF (decide (imm = 0)) 1 + 1)
  else if op = 27 ∨ op = 29 then sortIfF (decide (k.getD 0 0 = 2 ∧ k.getD 1 0 = 1)) 2
  else if op = 28 then sortIfF (decide (k.getD 0 0 = 2 ∧ k.getD 1 0 = 1 ∧ k.getD 2 0 = 1)) 2
  else if op = 30 then sortIfF (decide (1 ≤ k.length ∧ k.length ≤ 7 ∧ k.getD 0 0 = 2 ∧ allOne (k.drop 1) = true)) 2
  else if op = 31 then sortIfF (decide (k.length % 2 = 1 ∧ 1 ≤ k.length / 2 ∧ k.length / 2 ≤ 16 ∧ k.getD 0 0 = 2 ∧ allOne ((k.drop 1).take (k.length / 2)) = true ∧ k.getD (k.length / 2 + 1) 0 = 2 ∧ allOne (k.drop (k.length / 2 + 2)) = true)) 3
  else sortIfF (allOne k) 1
def nodeSortF (L : List Nd) (op imm : Int) (kids k : List Int) : Int := if badNode op imm kids then 0 else goodSortF L op imm kids k
end Go.Proofs.Ytblkgjdhaibhgaa

namespace Go.Proofs.Ytblkgjdhaibhgaa

def kidOk (out : List Int) (q : Int) : Bool := decide (0 ≤ q) && decide (q < out.length) && decide (out.getD q.toNat 0 ≠ 0)
def kidsOk (out : List Int) (kids : List Int) : Bool := kids.all (kidOk out)
def kidSorts (out : List Int) (kids : List Int) : List Int := kids.map fun q => out.getD q.toNat 0
def sortsStep (L : List Nd) (out : List Int) (nd : Nd) : Int := if kidsOk out nd.kids then nodeSortF L nd.op nd.imm nd.kids (kidSorts out nd.kids) else 0
def sortsTo (L : List Nd) : Nat → List Int
  | 0 => []
  | k + 1 => sortsTo L k ++ [sortsStep L (sortsTo L k) (L.getD k ⟨0, 0, []⟩)]
def sortsF (L : List Nd) : List Int := sortsTo L L.length
theorem sortsTo_len (L : List Nd) (k : Nat) : (sortsTo L k).length = k := by
  induction k with
  | zero => rfl
  | succ k ih => simp [sortsTo, ih]
theorem sortsTo_succ (L : List Nd) (k : Nat) (h : k < L.length) : sortsTo L (k + 1) = sortsTo L k ++ [sortsStep L (sortsTo L k) L[k]] := by
  show sortsTo L k ++ _ = _
  simp [List.getD, List.getElem?_eq_getElem h]
theorem kidsOk_snoc (out : List Int) (kids : List Int) (j : Nat) (h : j < kids.length) : kidsOk out (kids.take (j + 1)) = (kidsOk out (kids.take j) && kidOk out kids[j]) := by
  unfold kidsOk; rw [List.take_succ_eq_append_getElem h, List.all_append]; simp
theorem kidSorts_snoc (out : List Int) (kids : List Int) (j : Nat) (h : j < kids.length) : kidSorts out (kids.take (j + 1)) = kidSorts out (kids.take j) ++ [out.getD kids[j].toNat 0] := by
  unfold kidSorts; rw [List.take_succ_eq_append_getElem h, List.map_append]; simp
theorem kidsOk_no {out : List Int} {kids : List Int} {j : Nat} (h : j < kids.length) (hb : kidOk out kids[j] = false) : kidsOk out kids = false := by
  unfold kidsOk; rw [List.all_eq_false]; exact ⟨kids[j], List.getElem_mem h, by simp [hb]⟩
theorem kidOk_iff {out : List Int} {q : Int} : kidOk out q = true ↔ 0 ≤ q ∧ q < out.length ∧ out.getD q.toNat 0 ≠ 0 := by
  simp [kidOk, and_assoc]
theorem kidsOk_mem {out : List Int} {kids : List Int} (h : kidsOk out kids = true) : ∀ q ∈ kids, 0 ≤ q ∧ q < out.length := by
  intro q hq
  unfold kidsOk at h
  rw [List.all_eq_true] at h
  have := kidOk_iff.1 (h q hq)
  exact ⟨this.1, this.2.1⟩
end Go.Proofs.Ytblkgjdhaibhgaa

namespace Go.Proofs.Ytblkgjdhaibhgaa
open Go.RowKit

theorem nm {α : Type} (a : α) : ∃ x, Hid (a = x) := ⟨a, show a = a from rfl⟩

theorem Blk.new' {w : World} {t : TypeId} {cs : Array Value} {n : Nat} (h : n = w.heap.size) : Blk (w.alloc (.cells cs t)) n t cs := by subst h; exact Blk.new w t cs

theorem Ints.new {w : World} {t : TypeId} {cs : Array Value} (xs : List Int) (h : cs = (xs.map fun x => Value.int .i64 x).toArray) {n : Nat} (hn : n = w.heap.size) : Ints (w.alloc (.cells cs t)) (fun _ => True) (some ⟨n, 0, none⟩) xs := by
  subst h; subst hn
  have := Sl.of_blk (F := fun _ => True) trivial (Blk.new w t (xs.map fun x => Value.int .i64 x).toArray) xs.length
  unfold Ints
  rw [List.take_of_length_le (by simp)] at this
  simpa using this

def NodeAt (w : World) (F : Nat → Prop) (b o : Nat) (nd : Nd) : Prop :=
  w.cell? ⟨b, o, none⟩ = some (.int .i64 nd.op) ∧ w.cell? ⟨b, o + 1, none⟩ = some (.int .i64 nd.imm) ∧
    ∃ KA kc, w.cell? ⟨b, o + 2, none⟩ = some (.slice KA nd.kids.length kc) ∧ nd.kids.length ≤ kc ∧ Ints w F KA nd.kids
def NodesV (w : World) (F : Nat → Prop) (A : Option Addr) (L : List Nd) : Prop :=
  L = [] ∨ ∃ b off, A = some ⟨b, off, none⟩ ∧ F b ∧ ∀ i (h : i < L.length), NodeAt w F b (off + i * 3) L[i]
def PairsV (w : World) (F : Nat → Prop) (A : Option Addr) (ps : List (Int × Int)) : Prop :=
  ps = [] ∨ ∃ b off, A = some ⟨b, off, none⟩ ∧ F b ∧ ∀ i (h : i < ps.length), w.cell? ⟨b, off + i * 2, none⟩ = some (.int .i64 ps[i].1) ∧ w.cell? ⟨b, off + i * 2 + 1, none⟩ = some (.int .i64 ps[i].2)

section
variable {w w' : World} {F G S : Nat → Prop} {A : Option Addr} {L : List Nd} {ps : List (Int × Int)}
theorem cell_upd {b o : Nat} {v : Value} (h : w.cell? ⟨b, o, none⟩ = some v) (u : Upd S w w') (d : ¬ S b) : w'.cell? ⟨b, o, none⟩ = some v :=
  (World.cell?_of_block (w := w) (u.block b (World.block_lt_of_cell? w _ h) d)).trans h
theorem NodeAt.upd {b o : Nat} {nd : Nd} (h : NodeAt w F b o nd) (u : Upd S w w') (d : ∀ k, k < w.heap.size → F k → ¬ S k) (db : ¬ S b) : NodeAt w' F b o nd := by
  obtain ⟨h1, h2, KA, kc, h3, h4, h5⟩ := h
  exact ⟨cell_upd h1 u db, cell_upd h2 u db, KA, kc, cell_upd h3 u db, h4, h5.upd u d⟩
theorem NodesV.upd (h : NodesV w F A L) (u : Upd S w w') (d : ∀ k, k < w.heap.size → F k → ¬ S k) : NodesV w' F A L := by
  rcases h with h | ⟨b, off, e, hF, hc⟩
  · exact .inl h
  · exact .inr ⟨b, off, e, hF, fun i hi => (hc i hi).upd u d (d b (World.block_lt_of_cell? w _ (hc i hi).1) hF)⟩
theorem NodesV.at_ (h : NodesV w F A L) {i : Nat} (hi : i < L.length) : ∃ b off, A = some ⟨b, off, none⟩ ∧ F b ∧ b < w.heap.size ∧ NodeAt w F b (off + i * 3) L[i] := by
  rcases h with h | ⟨b, off, e, hF, hc⟩
  · subst h; simp at hi
  · exact ⟨b, off, e, hF, World.block_lt_of_cell? w _ (hc i hi).1, hc i hi⟩
theorem NodesV.mono (h : NodesV w F A L) (hFG : ∀ k, k < w.heap.size → F k → G k) : NodesV w G A L := by
  rcases h with h | ⟨b, off, e, hF, hc⟩
  · exact .inl h
  · by_cases hn : L = []
    · exact .inl hn
    · have h0 : 0 < L.length := List.length_pos_iff.2 hn
      refine .inr ⟨b, off, e, hFG b (World.block_lt_of_cell? w _ (hc 0 h0).1) hF, fun i hi => ?_⟩
      obtain ⟨h1, h2, KA, kc, h3, h4, h5⟩ := hc i hi
      exact ⟨h1, h2, KA, kc, h3, h4, h5.mono hFG⟩
theorem PairsV.upd (h : PairsV w F A ps) (u : Upd S w w') (d : ∀ k, k < w.heap.size → F k → ¬ S k) : PairsV w' F A ps := by
  rcases h with h | ⟨b, off, e, hF, hc⟩
  · exact .inl h
  · exact .inr ⟨b, off, e, hF, fun i hi => by
      have hb := d b (World.block_lt_of_cell? w _ (hc i hi).1) hF
      exact ⟨cell_upd (hc i hi).1 u hb, cell_upd (hc i hi).2 u hb⟩⟩
theorem PairsV.at_ (h : PairsV w F A ps) {i : Nat} (hi : i < ps.length) : ∃ b off, A = some ⟨b, off, none⟩ ∧ F b ∧ b < w.heap.size ∧ w.cell? ⟨b, off + i * 2, none⟩ = some (.int .i64 ps[i].1) ∧ w.cell? ⟨b, off + i * 2 + 1, none⟩ = some (.int .i64 ps[i].2) := by
  rcases h with h | ⟨b, off, e, hF, hc⟩
  · subst h; simp at hi
  · exact ⟨b, off, e, hF, World.block_lt_of_cell? w _ (hc i hi).1, hc i hi⟩
theorem PairsV.mono (h : PairsV w F A ps) (hFG : ∀ k, k < w.heap.size → F k → G k) : PairsV w G A ps := by
  rcases h with h | ⟨b, off, e, hF, hc⟩
  · exact .inl h
  · by_cases hn : ps = []
    · exact .inl hn
    · have h0 : 0 < ps.length := List.length_pos_iff.2 hn
      exact .inr ⟨b, off, e, hFG b (World.block_lt_of_cell? w _ (hc 0 h0).1) hF, hc⟩
end

/-- make([]T, n), T of one cell. -/
theorem run_mk {P : Program} {t e : TypeId} {bytes : Nat} (T : SlT P t e 1 bytes) {z : Value} (hz : (P.info? e).bind (·.zero) = some z) (hzc : z.cells = #[z]) (n : Nat) (hb : bytes * n ≤ 281474976710656) (hn : n ≤ 9223372036854775807) (w : World) :
    (Instr.makeSlice t (.int .i64 (n : Int)) (.int .i64 (n : Int))).run P w = .ok (.slice (some ⟨w.heap.size, 0, none⟩) n n) (w.alloc (.cells (Array.replicate n z) e)) := by
  obtain ⟨ht, ⟨i, z', hi, hz', hsz, hby, hzs⟩, _⟩ := T
  have : z' = z := by rw [hi] at hz; simp [hz'] at hz; exact hz
  subst this
  have hb' : (i.bytes : Int) * (n : Int) ≤ 281474976710656 := by
    have h : ((i.bytes * n : Nat) : Int) ≤ 281474976710656 := by rw [hby]; omega
    rwa [Int.natCast_mul] at h
  have hr := run_make (P := P) w t e i z' ht hi hz' .i64 .i64 n n (by omega) (by omega) hb' (by omega)
  simp only [Int.toNat_natCast, hsz, Nat.mul_one, hzc] at hr
  rw [hr]
  congr 2
  congr 1
  apply Array.ext
  · simp [size_madeCells]
  · intro j h1 h2
    simp [madeCells, Nat.mod_one]

end Go.Proofs.Ytblkgjdhaibhgaa

namespace Go.Proofs.Ytblkgjdhaibhgaa

section
variable {P : Program} {ops : Array Oper} {Q : Exit → Act → World → Prop} {md : Region.Mode} {S : World → Prop}

/-- Operation i leaves v and an unchanged world, from every frame of Y and world of S; Y stays under what the others write. -/
structure Calm (P : Program) (ops : Array Oper) (Q : Exit → Act → World → Prop) (S : World → Prop) (i : Nat) (oi : Oper) (v : Value) (Y : Act → Prop) : Prop where
  at_ : ops[i]? = some oi
  run : ∀ (K : Act → World → Prop) a w, Y a → S w → K (a.put oi.dst v) w → wpOp P ops Q i K a w
  put : ∀ a d u, Y a → (∀ t, d = some t → t ∉ oi.looksAt ops) → Y (a.put d u)
  late : ∀ a d, Y a → Y { a with defers := d :: a.defers }
  dies : ∀ c a w, Q (.panic c) (a.put oi.dst v) w → Q (.panic c) a w

/-- Another operation, run behind it, might as well have been run ahead of it. -/
theorem Calm.swap {i : Nat} {oi : Oper} {v : Value} {Y : Act → Prop} (C : Calm P ops Q S i oi v Y) (hns : ∀ (j : Nat) (o : Oper) cs b, ops[j]? = some o → o.op ≠ .select cs b)
    {j : Nat} {oj : Oper} (hj : ops[j]? = some oj) (hap : oi.apart ops oj = true) {K : Act → World → Prop} {a : Act} {w : World} (hy : Y a) (h : wpOp P ops Q j K (a.put oi.dst v) w) :
    wpOp P ops Q j (fun a' w' => Y a' ∧ K (a'.put oi.dst v) w') a w := by
  obtain ⟨p1, p2, p3⟩ := Oper.apart_spec hap
  have E := execOp_put oj (hns j oj · · hj) a oi.dst v p1
  have st : ∀ b, Y b → ∀ u, Y (b.put oj.dst u) := fun b hb u => C.put b _ u hb p3
  unfold wpOp at h ⊢
  rw [hj] at h ⊢
  dsimp only at h ⊢
  rw [wanted_put oj a oi.dst v p1] at h
  by_cases hw : Region.wanted oj (yielded ops a.tmps) = true
  · rw [if_pos hw] at h ⊢
    rcases h with h | ⟨hk, hl⟩
    · left
      unfold Oper.wp at h ⊢
      rw [E] at h
      revert h
      cases (execOp a.eval oj).run P w with
      | halt x w' => cases x <;> (simp only [Oper.upon]; intro h) <;> first | exact h | exact C.dies _ _ _ h
      | ok n w' =>
        cases n with
        | value u => intro h; exact ⟨st a hy u, by rw [← Act.put_comm a v u p2]; exact h⟩
        | skip => intro h; exact ⟨st a hy _, by rw [← Act.put_comm a v undef p2]; exact h⟩
        | defer d => intro h; exact ⟨st _ (C.late a d hy) _, by rw [← Act.put_comm _ v undef p2, ← Act.put_defers]; exact h⟩
        | row r args => intro h; exact Rows.mono h fun u _ he => ⟨st a hy u, by rw [← Act.put_comm a v u p2]; exact he⟩
        | enter f args =>
          intro h
          refine Calls.mono h fun e _ he => ?_
          match e, he with
          | .returned u, he => exact ⟨st a hy u, by rw [← Act.put_comm a v u p2]; exact he⟩
          | .panicked _, he => exact C.dies _ _ _ he
          | .outgrown, he => exact he
        | _ => first | exact id | (intro h; exact h)
    · exact .inr ⟨by unfold Oper.asks at hk ⊢; rw [E] at hk; exact hk, hl⟩
  · rw [if_neg hw] at h ⊢
    exact ⟨st a hy _, by rw [← Act.put_comm a v undef p2]; exact h⟩

/-- It may be taken first. -/
theorem Calm.first {i : Nat} {oi : Oper} {v : Value} {Y : Act → Prop} (C : Calm P ops Q S i oi v Y) (hns : ∀ (j : Nat) (o : Oper) cs b, ops[j]? = some o → o.op ≠ .select cs b) :
    ∀ (fuel : Nat) (listed : Array Bool) (a : Act) (w : World),
      (∀ j oj, ops[j]? = some oj → j ≠ i → listed.getD j true = false → (∀ e ∈ oj.after, Region.binds md e = true → e.on ≠ i) → oi.apart ops oj = true) →
      i ∈ Region.ready md ops listed → Y a → S w → wpAnyH P md ops Q S fuel (listed.setIfInBounds i true) (a.put oi.dst v) w → wpAnyH P md ops Q S (fuel + 1) listed a w
  | 0, listed, a, w, _, hr, hy, hS, H => by
    refine ⟨fun h => absurd hr (by rw [h]; simp), fun j hj => ?_⟩
    by_cases e : j = i
    · rw [e]; exact C.run _ a w hy hS ⟨hS, H⟩
    · exact absurd (ready_mono hj e) (by rw [H.1]; simp)
  | fuel + 1, listed, a, w, hf, hr, hy, hS, H => by
    refine ⟨fun h => absurd hr (by rw [h]; simp), fun j hj => ?_⟩
    by_cases e : j = i
    · rw [e]; exact C.run _ a w hy hS ⟨hS, H⟩
    obtain ⟨un, oj, hoj, hall⟩ := mem_ready.1 hj
    have hi0 := (mem_ready.1 hr).1
    have waits : ∀ x ∈ oj.after, Region.binds md x = true → x.on ≠ i := fun x hx hb heq => by
      have := hall x hx hb
      rw [heq] at this
      rcases Nat.lt_or_ge i listed.size with q | q
      · simp [q] at this hi0; rw [hi0] at this; cases this
      · simp [Array.getElem?_eq_none q] at this
    refine wpOp_mono (fun b w2 h3 => ?_) (C.swap hns hoj (hf j oj hoj e un waits) hy (H.2 j (ready_mono hj e)))
    refine ⟨h3.2.1, Calm.first C hns fuel (listed.setIfInBounds j true) b w2 (fun k ok hk hki hun hno => ?_) (ready_mono hr (Ne.symm e)) h3.1 h3.2.1 ?_⟩
    · by_cases q : j = k
      · exact hf k ok hk hki (by rw [← q]; exact un) hno
      · exact hf k ok hk hki (by rw [getD_set_ne true q] at hun; exact hun) hno
    · rw [Array.setIfInBounds_comm _ _ e]; exact h3.2.2

/-- In state a, in every world of S, o calls a function that returns v and leaves the world as it is. -/
def PureC (P : Program) (ops : Array Oper) (S : World → Prop) (o : Oper) (v : Value) (a : Act) : Prop :=
  Region.wanted o (yielded ops a.tmps) = true ∧ ∃ f args, (∀ w, (execOp a.eval o).run P w = .ok (.enter f args) w) ∧ ∀ w, S w → Calls P f args w fun e w' => e = .returned v ∧ w' = w
theorem PureC.calm {i : Nat} {oi : Oper} {v : Value} (hi : ops[i]? = some oi) (hns : ∀ (j : Nat) (o : Oper) cs b, ops[j]? = some o → o.op ≠ .select cs b) (hQ : ∀ c a w, Q (.panic c) (a.put oi.dst v) w → Q (.panic c) a w) :
    Calm P ops Q S i oi v (PureC P ops S oi v) := by
  refine ⟨hi, fun K a w hy hS h => ?_, fun a d u hy hd => ?_, fun a d hy => hy, hQ⟩
  · obtain ⟨hw, f, args, hr, hc⟩ := hy
    unfold wpOp
    simp only [hi, hw, if_true, Oper.wp, hr w, Oper.upon]
    refine .inl ((hc w hS).mono fun e w' he => ?_)
    obtain ⟨rfl, rfl⟩ := he
    exact h
  · unfold PureC at *
    rw [execOp_put oi (hns i oi · · hi) a d u hd, wanted_put oi a d u hd]
    exact hy

/-- Take call number i first. -/
theorem wpAnyH_takeC {i : Nat} {oi : Oper} {v : Value} {fuel : Nat} {listed : Array Bool} {a : Act} {w : World} (hi : ops[i]? = some oi)
    (hs : Region.noSelect ops = true) (hf : Region.free md ops listed i = true) (hr : (Region.ready md ops listed).contains i = true)
    (hQ : ∀ c a w, Q (.panic c) (a.put oi.dst v) w → Q (.panic c) a w) (hy : PureC P ops S oi v a) (hS : S w)
    (h : wpAnyH P md ops Q S fuel (listed.setIfInBounds i true) (a.put oi.dst v) w) : wpAnyH P md ops Q S (fuel + 1) listed a w :=
  (PureC.calm hi (Region.noSelect_spec hs) hQ).first (Region.noSelect_spec hs) fuel listed a w (Region.free_spec hi hf) (by simpa using hr) hy hS h

end
end Go.Proofs.Ytblkgjdhaibhgaa

namespace Go.Proofs.Ytblkgjdhaibhgaa
open Go.RowKit

theorem i64w_of {x : Int} (h : I64 x) : IntKind.i64.wrap x = x := by rw [IntKind.wrap_i64]; unfold I64 at h; omega
theorem step_app {P : Program} {w : World} {ops : Array Oper} {o : Oper} {a : Act} {K : Act → World → Prop} {Q : Exit → Act → World → Prop} {E : Prop} (hgd : o.guard = none) {s x : Operand} {t : TypeId}
    (ho : o.op = .call { callee := .builtin .append, args := #[s, x], argTypes := #[t, t] }) {F : Nat → Prop} {e : TypeId} {size bytes : Nat} (T : SlT P t e size bytes) {A : Option Addr} {n c : Nat} {cs : List Value} (hs : a.eval s = .slice A n c) (h : Own w e size A n c cs)
    {A2 : Option Addr} {m c2 : Nat} {news : List Value} (hx : a.eval x = .slice A2 m c2) (hr : Sl w F A2 news) (hl : news.length = m * size) (h1 : ∀ u ∈ news, u.oneCell' = true) (h63 : n + m ≤ maxLen) (hb : (n + m) * bytes ≤ 140737488355328)
    (k : ∀ A' c' w', Own w' e size A' (n + m) c' (cs ++ news) → Upd (At A) w w' → (∀ k, At A' k → At A k ∨ k = w.heap.size) → K (a.put o.dst (.slice A' (n + m) c')) w') :
    if Region.wanted o (yielded ops a.tmps) = true then Oper.wp P o a w K Q else E := by
  have hw : Region.wanted o (yielded ops a.tmps) = true := by simp [Region.wanted, hgd]
  rw [if_pos hw]
  exact wp_app ho T hs h hx hr hl h1 h63 hb k
theorem getD_of {α : Type} {l : List α} {i : Nat} {d : α} (h : i < l.length) : l.getD i d = l[i] := by simp [List.getD, h]
theorem updCell (w : World) (b i : Nat) (v : Value) : Upd (· = b) w (w.setCell ⟨b, i, none⟩ v) := Upd.refl.setCell (S := (· = b)) (p := ⟨b, i, none⟩) (.inl rfl) _
def icells (l : List Int) : List Value := l.map fun x => Value.int .i64 x
theorem icells_snoc (l : List Int) (x : Int) : icells (l ++ [x]) = icells l ++ [.int .i64 x] := by simp [icells]
theorem T_ints' : SlT Try.prog 38 3 1 8 := by
  obtain ⟨i, h1, h2, h3, h4⟩ := info_parts (show (Try.prog.info? 3).map (fun i => (i.zero, i.size, i.bytes)) = some (some (.int .i64 0), 1, 8) from by kernel_rfl)
  exact ⟨Try.underlying38, ⟨i, _, h1, h2, h3, h4, rfl⟩, by omega⟩
theorem Own.ints {w : World} {A : Option Addr} {n c : Nat} {l : List Int} (h : Own w 3 1 A n c (icells l)) : Ints w (At A) A l := h.sl
theorem Own.le {w : World} {e : TypeId} {size : Nat} {A : Option Addr} {n c : Nat} {cs : List Value} (h : Own w e size A n c cs) : n ≤ c := by
  rcases h.cases with ⟨_, h, _⟩ | ⟨_, _, _, _, h, _⟩ <;> omega
theorem Own.set_ {w : World} {e : TypeId} {g n c : Nat} {cs : List Value} (h : Own w e 1 (some ⟨g, 0, none⟩) n c cs) (i : Nat) (u : Value) : Own (w.setCell ⟨g, i, none⟩ u) e 1 (some ⟨g, 0, none⟩) n c (cs.set i u) := by
  rcases h.cases with ⟨h0, _⟩ | ⟨g', cur, e1, hb, hn, hm, hs, ht⟩
  · cases h0
  · injection e1 with e1; injection e1 with e1; subst e1
    refine Own.mk_ (hb.set_ i u) hn hm (by simpa using hs) ?_
    rw [Array.toList_setIfInBounds, List.take_set, ht]
theorem Own.cell_ {w : World} {e : TypeId} {g n c : Nat} {cs : List Value} (h : Own w e 1 (some ⟨g, 0, none⟩) n c cs) {i : Nat} (hi : i < cs.length) : w.cell? ⟨g, i, none⟩ = some cs[i] := by
  rcases h.cases with ⟨h0, _⟩ | ⟨g', cur, e1, hb, hn, hm, hs, ht⟩
  · cases h0
  · injection e1 with e1; injection e1 with e1; subst e1
    subst ht
    rw [hb.cell]
    simp at hi ⊢
theorem Own.frozen_ {w : World} {e : TypeId} {g n c : Nat} {cs : List Value} (h : Own w e 1 (some ⟨g, 0, none⟩) n c cs) (i : Nat) : w.frozen? ⟨g, i, none⟩ = false := by
  rcases h.cases with ⟨h0, _⟩ | ⟨g', cur, e1, hb, hn, hm, hs, ht⟩
  · cases h0
  · injection e1 with e1; injection e1 with e1; subst e1
    exact hb.frozen i
theorem Own.some_ {w : World} {e : TypeId} {size : Nat} {A : Option Addr} {n c : Nat} {cs : List Value} (h : Own w e size A n c cs) (hn : 0 < n) : ∃ g, A = some ⟨g, 0, none⟩ := by
  rcases h.cases with ⟨_, h0, _⟩ | ⟨g, cur, e1, _⟩
  · omega
  · exact ⟨g, e1⟩
theorem icells_one (xs : List Int) : ∀ u ∈ icells xs, u.oneCell' = true := by
  intro u hu
  obtain ⟨x, _, rfl⟩ := List.mem_map.1 hu
  rfl
theorem own_empty (w : World) (t : TypeId) (size : Nat) : Own (w.alloc (.cells #[] t)) t size (some ⟨w.heap.size, 0, none⟩) 0 0 [] := Own.mk_ (Blk.new w t #[]) (Nat.le_refl _) (by simp [maxLen]) (by simp) (by simp)
theorem own_empty' {w : World} (t : TypeId) (size : Nat) {g : Nat} (h : g = w.heap.size) : Own (w.alloc (.cells #[] t)) t size (some ⟨g, 0, none⟩) 0 0 [] := by subst h; exact own_empty w t size
/-- The end of a slice that reads as a list. -/
theorem Sl.cut {w : World} {F : Nat → Prop} {A : Option Addr} {cs : List Value} (h : Sl w F A cs) (k cap : Nat) (hc : cs.length ≤ cap) : Sl w F (if cap = k then A else A.map (·.add k)) (cs.drop k) := by
  rcases h with h | ⟨b, off, rfl, hF, hc'⟩
  · subst h; exact .inl (by simp)
  · by_cases hk : k < cs.length
    · rw [if_neg (by omega)]
      refine .inr ⟨b, off + k, by simp [Addr.add_lit], hF, fun j hj => ?_⟩
      rw [List.length_drop] at hj
      rw [Nat.add_assoc, hc' (k + j) (by omega), List.getElem_drop]
    · exact .inl (List.drop_eq_nil_of_le (by omega))
theorem Ints.cut {w : World} {F : Nat → Prop} {A : Option Addr} {xs : List Int} (h : Ints w F A xs) (k cap : Nat) (hc : xs.length ≤ cap) : Ints w F (if cap = k then A else A.map (·.add k)) (xs.drop k) := by
  have := Sl.cut h k cap (by simpa using hc)
  rw [← List.map_drop] at this
  exact this
theorem Sl.take_ {w : World} {F : Nat → Prop} {A : Option Addr} {cs : List Value} (h : Sl w F A cs) (k : Nat) : Sl w F A (cs.take k) := by
  rcases h with h | ⟨b, off, rfl, hF, hc'⟩
  · subst h; exact .inl (by simp)
  · refine .inr ⟨b, off, rfl, hF, fun j hj => ?_⟩
    rw [List.length_take] at hj
    rw [hc' j (by omega), List.getElem_take]
theorem Ints.take_ {w : World} {F : Nat → Prop} {A : Option Addr} {xs : List Int} (h : Ints w F A xs) (k : Nat) : Ints w F A (xs.take k) := by
  have := Sl.take_ h k
  rw [← List.map_take] at this
  exact this
theorem Ints.drop_ {w : World} {F : Nat → Prop} {b o : Nat} {xs : List Int} (h : Ints w F (some ⟨b, o, none⟩) xs) (k : Nat) : Ints w F (some ⟨b, o + k, none⟩) (xs.drop k) := by
  rcases h with h | ⟨b', o', e, hF, hc⟩
  · have : xs = [] := by simpa using h
    subst this; exact .inl (by simp)
  · injection e with e; injection e with e1 e2; subst e1; subst e2
    refine .inr ⟨b, o + k, rfl, hF, fun j hj => ?_⟩
    have hj' : k + j < xs.length := by simp at hj; omega
    rw [Nat.add_assoc, hc (k + j) (by simpa using hj')]
    simp
theorem Sl.new2 (w : World) (o : Obj) (t : TypeId) (cs : List Value) : Sl ((w.alloc o).alloc (.cells cs.toArray t)) (· = w.heap.size + 1) (some ⟨w.heap.size + 1, 0, none⟩) cs := by
  have := Sl.new (w.alloc o) t cs
  rwa [show (w.alloc o).heap.size = w.heap.size + 1 by simp] at this
theorem cell_set_other {w : World} {b i j : Nat} {u v : Value} (h : w.cell? ⟨b, j, none⟩ = some v) (hne : i ≠ j) : (w.setCell ⟨b, i, none⟩ u).cell? ⟨b, j, none⟩ = some v := by
  rw [World.cell?_setCell_other]
  · exact h
  · intro e
    injection e with _ e2
    exact hne e2
theorem put_z : (∀ (a : Act) (d : Tmp) (v : Value), a.put (some d) v = { a with tmps := a.tmps.setIfInBounds d v }) ∧ (∀ (a : Act) (v : Value), a.put none v = a) ∧
    (∀ (l : List Value) (i : Nat) (v : Value), l.toArray.setIfInBounds i v = (l.set i v).toArray) ∧ (∀ (x v : Value) (l : List Value), (x :: l).set 0 v = v :: l) ∧ (∀ (x v : Value) (l : List Value) (n : Nat), (x :: l).set (n + 1) v = x :: l.set n v) :=
  ⟨fun _ _ _ => rfl, fun _ _ => rfl, fun _ _ _ => by simp, fun _ _ _ => rfl, fun _ _ _ _ => rfl⟩
/-- The operation that has come up, out of its region. -/
theorem put_y : (∀ (l : List Oper) (i : Nat) (h : i < l.toArray.size), l.toArray[i]'h = l[i]'(by simpa using h)) ∧ (∀ (x : Oper) (l : List Oper) (h : 0 < (x :: l).length), (x :: l)[0]'h = x) ∧
    (∀ (x : Oper) (l : List Oper) (n : Nat) (h : n + 1 < (x :: l).length), (x :: l)[n + 1]'h = l[n]'(by simpa using h)) := ⟨fun _ _ _ => by simp, fun _ _ _ => rfl, fun _ _ _ _ => rfl⟩
/-- The bytes of a string. -/
def kx (s : ByteArray) : List UInt8 := s.data.toList
theorem kx_mk (x : List UInt8) : kx ⟨x.toArray⟩ = x := by simp [kx]
theorem kx_inj {s q : ByteArray} (h : kx s = kx q) : s = q := by
  rcases s with ⟨s⟩; rcases q with ⟨q⟩
  simp only [kx] at h
  rw [Array.toList_inj.1 h]
theorem kx_len (s : ByteArray) : (kx s).length = s.size := by simp [kx]
theorem take_snoc_ {α : Type} {L : List α} {k : Nat} (h : k < L.length) : L.take (k + 1) = L.take k ++ [L[k]] := by
  rw [List.take_add_one, List.getElem?_eq_getElem h]; rfl

end Go.Proofs.Ytblkgjdhaibhgaa
