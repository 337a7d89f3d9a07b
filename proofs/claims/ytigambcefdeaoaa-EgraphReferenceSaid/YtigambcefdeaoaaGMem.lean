/-
  An e-graph of package egraph as it lies in memory: each block that it uses has one role. No condition of its own.
-/
import Derived.Test.YtigambcefdeaoaaEgP
import Derived.Test.YtigambcefdeaoaaOMap
import Derived.Test.YtigambcefdeaoaaEKey
import Derived.Test.YtigambcefdeaoaaIrS
namespace Go.Proofs.Ytigambcefdeaoaa
open Go.RowKit

/-- What a block is to a graph. -/
inductive Role where
  | no | me | nodes | kids | sorts | find | mem | ins | byOp | idx | steps | vars
  | ops (a : Int × Int)

theorem T_intss : SlT Try.prog 71 22 1 24 := by
  obtain ⟨i, h1, h2, h3, h4⟩ := info_parts (show (Try.prog.info? 22).map (fun i => (i.zero, i.size, i.bytes)) = some (some (.slice none 0 0), 1, 24) from by kernel_rfl)
  exact ⟨Try.underlying71, ⟨i, _, h1, h2, h3, h4, rfl⟩, by omega⟩
theorem T_i64s : SlT Try.prog 32 2 1 8 := by
  obtain ⟨i, h1, h2, h3, h4⟩ := info_parts (show (Try.prog.info? 2).map (fun i => (i.zero, i.size, i.bytes)) = some (some (.int .i64 0), 1, 8) from by kernel_rfl)
  exact ⟨Try.underlying32, ⟨i, _, h1, h2, h3, h4, rfl⟩, by omega⟩
theorem T_steps : SlT Try.prog 37 34 5 72 := by
  obtain ⟨i, h1, h2, h3, h4⟩ := info_parts (show (Try.prog.info? 34).map (fun i => (i.zero, i.size, i.bytes)) = some (some (.agg #[.int .i64 0, .int .i64 0, .int .i64 0, .slice none 0 0, .slice none 0 0]), 5, 72) from by kernel_rfl)
  exact ⟨Try.underlying37, ⟨i, _, h1, h2, h3, h4, rfl⟩, by omega⟩
theorem part_int (cs : Array Value) (i : Nat) (v : Value) (h : cs[i]? = some v) (w : World) : (part 3 cs i).run Try.prog w = .ok v w := by
  simp [part, isAgg, run_underlying Try.underlying3, h]
theorem part_int64 (cs : Array Value) (i : Nat) (v : Value) (h : cs[i]? = some v) (w : World) : (part 2 cs i).run Try.prog w = .ok v w := by
  simp [part, isAgg, run_underlying Try.underlying2, h]
theorem opImm_eq (d : Nat) (a b : Int × Int) (w : World) : (Op.equalIn (d + 1 + 1) 90 (encO a) (encO b)).run Try.prog w = .ok (decide (a = b)) w := by
  have hp : Try.prog.stoodInHeld 90 = false := by kernel_rfl
  have p1 := part_int #[.int .i64 a.1, .int .i64 a.2] 0 _ rfl
  have p2 := part_int #[.int .i64 b.1, .int .i64 b.2] 0 _ rfl
  have p3 := part_int64 #[.int .i64 a.1, .int .i64 a.2] 1 _ rfl
  have p4 := part_int64 #[.int .i64 b.1, .int .i64 b.2] 1 _ rfl
  simp [Op.equalIn, run_underlying Try.underlying90, encO, run_program, hp, p1, p2, p3, p4]
  by_cases h1 : a.1 = b.1 <;> by_cases h2 : a.2 = b.2 <;> simp [h1, h2, Prod.ext_iff]
theorem opImm_chk (d : Nat) (a : Int × Int) (e : Bool) (w : World) : (Instr.checkKey e (d + 1 + 1) 90 (encO a)).run Try.prog w = .ok () w := by
  have p1 := part_int #[.int .i64 a.1, .int .i64 a.2] 0 _ rfl
  have p3 := part_int64 #[.int .i64 a.1, .int .i64 a.2] 1 _ rfl
  simp [Instr.checkKey, run_underlying Try.underlying90, encO, p1, p3, run_underlying Try.underlying3, run_underlying Try.underlying2]
theorem KT : KeyT Try.prog 90 := ⟨⟨_, Try.underlying90⟩, fun a b w => opImm_eq 9998 a b w, fun a e w => opImm_chk 9998 a e w⟩

section
variable {w w' : World} {ρ ρ' : Nat → Role} {S : Nat → Prop}

/-- The nodes. -/
def GL (w : World) (ρ : Nat → Role) (A : Option Addr) (c : Nat) (L : List Nd) : Prop :=
  ∃ cs, Own w 24 3 A L.length c cs ∧ NodeCells w (fun k => ρ k = .kids) cs L ∧ ∀ k, At A k → ρ k = .nodes
theorem GL.upd {A : Option Addr} {c : Nat} {L : List Nd} (h : GL w ρ A c L) (u : Upd S w w') (d : ∀ k, k < w.heap.size → S k → ρ k ≠ .nodes ∧ ρ k ≠ .kids) (e : ∀ k, k < w.heap.size → ρ' k = ρ k) : GL w' ρ' A c L := by
  obtain ⟨cs, h1, h2, h3⟩ := h
  refine ⟨cs, h1.upd u (fun k hk hS => (d k (h1.lt hk) hS).1 (h3 k hk)), h2.mono u (fun k hk hr hS => (d k hk hS).2 hr) (fun k hk hr => by rw [e k hk]; exact hr), fun k hk => ?_⟩
  rw [e k (h1.lt hk)]; exact h3 k hk

/-- A list of numbers in a slice of its own. -/
def GI (w : World) (ρ : Nat → Role) (r : Role) (A : Option Addr) (c : Nat) (xs : List Int) : Prop := Own w 3 1 A xs.length c (icells xs) ∧ ∀ k, At A k → ρ k = r
theorem GI.upd {r : Role} {A : Option Addr} {c : Nat} {xs : List Int} (h : GI w ρ r A c xs) (u : Upd S w w') (d : ∀ k, k < w.heap.size → S k → ρ k ≠ r) (e : ∀ k, k < w.heap.size → ρ' k = ρ k) : GI w' ρ' r A c xs :=
  ⟨h.1.upd u (fun k hk hS => d k (h.1.lt hk) hS (h.2 k hk)), fun k hk => by rw [e k (h.1.lt hk)]; exact h.2 k hk⟩

/-- The members of a class, ascending. -/
def memL (n : Nat) (c : Nat → Nat) (i : Nat) : List Int := ((List.range n).filter fun k => c k == i).map fun (k : Nat) => (k : Int)
def scells (n : Nat) (c : Nat → Nat) (ms : List (Option Addr × Nat)) : List Value := (List.range n).map fun i => .slice (ms.getD i (none, 0)).1 (memL n c i).length (ms.getD i (none, 0)).2
def GMm (w : World) (ρ : Nat → Role) (A : Option Addr) (cp n : Nat) (c : Nat → Nat) : Prop :=
  ∃ ms : List (Option Addr × Nat), ms.length = n ∧ Own w 22 1 A n cp (scells n c ms) ∧ (∀ k, At A k → ρ k = .mem) ∧ ∀ i, i < n → Ints w (fun k => ρ k = .ins) (ms.getD i (none, 0)).1 (memL n c i) ∧ (memL n c i).length ≤ (ms.getD i (none, 0)).2
theorem Ints.upd' {A : Option Addr} {xs : List Int} {r : Role} (h : Ints w (fun k => ρ k = r) A xs) (u : Upd S w w') (d : ∀ k, k < w.heap.size → S k → ρ k ≠ r) (e : ∀ k, k < w.heap.size → ρ' k = ρ k) : Ints w' (fun k => ρ' k = r) A xs :=
  ((h.mono (G := fun k => ρ' k = r ∧ ρ k = r) (fun k hk hr => ⟨by rw [e k hk]; exact hr, hr⟩)).upd u (fun k hk hr hS => d k hk hS hr.2)).mono (fun _ _ h => h.1)
theorem GMm.upd {A : Option Addr} {cp n : Nat} {c : Nat → Nat} (h : GMm w ρ A cp n c) (u : Upd S w w') (d : ∀ k, k < w.heap.size → S k → ρ k ≠ .mem ∧ ρ k ≠ .ins) (e : ∀ k, k < w.heap.size → ρ' k = ρ k) : GMm w' ρ' A cp n c := by
  obtain ⟨ms, h1, h2, h3, h4⟩ := h
  refine ⟨ms, h1, h2.upd u (fun k hk hS => (d k (h2.lt hk) hS).1 (h3 k hk)), fun k hk => by rw [e k (h2.lt hk)]; exact h3 k hk, fun i hi => ⟨(h4 i hi).1.upd' u (fun k hk hS => (d k hk hS).2) e, (h4 i hi).2⟩⟩

/-- The nodes by operation. -/
def opL (L : List Nd) (a : Int × Int) : List Int := ((List.range L.length).filter fun k => decide ((L.getD k nd0).op = a.1 ∧ (L.getD k nd0).imm = a.2)).map fun (k : Nat) => (k : Int)
def OpE (w : World) (ρ : Nat → Role) (L : List Nd) (m : Int × Int → Option Value) (a : Int × Int) : Prop :=
  (m a = none ∧ opL L a = []) ∨ ∃ A c, m a = some (.slice A (opL L a).length c) ∧ GI w ρ (.ops a) A c (opL L a)
def GO (w : World) (ρ : Nat → Role) (b : Nat) (L : List Nd) : Prop := ∃ m, OMap w b m ∧ ρ b = .byOp ∧ ∀ a, OpE w ρ L m a
theorem OpE.upd {L : List Nd} {m : Int × Int → Option Value} {a : Int × Int} (h : OpE w ρ L m a) (u : Upd S w w') (d : ∀ k, k < w.heap.size → S k → ρ k ≠ .ops a) (e : ∀ k, k < w.heap.size → ρ' k = ρ k) : OpE w' ρ' L m a := by
  rcases h with h | ⟨A, c, h1, h2⟩
  · exact .inl h
  · exact .inr ⟨A, c, h1, h2.upd u d e⟩
theorem GO.upd {b : Nat} {L : List Nd} (h : GO w ρ b L) (u : Upd S w w') (d : ∀ k, k < w.heap.size → S k → ρ k ≠ .byOp ∧ ∀ a, ρ k ≠ .ops a) (e : ∀ k, k < w.heap.size → ρ' k = ρ k) : GO w' ρ' b L := by
  obtain ⟨m, h1, h2, h3⟩ := h
  exact ⟨m, h1.upd u (fun hS => (d b h1.lt hS).1 h2), by rw [e b h1.lt]; exact h2, fun a => (h3 a).upd u (fun k hk hS => (d k hk hS).2 a) e⟩

/-- The nodes by their keys. -/
def ndKey (nd : Nd) : ByteArray := keyE nd.op nd.imm nd.kids
def idxF (L : List Nd) (s : ByteArray) : Option Nat := (List.range L.length).find? fun i => decide (ndKey (L.getD i nd0) = s)
def idxV (L : List Nd) (s : ByteArray) : Option Value := (idxF L s).map fun i => .int .i64 (i : Int)
def GX (w : World) (ρ : Nat → Role) (b : Nat) (L : List Nd) : Prop := SMap w b (idxV L) ∧ ρ b = .idx
theorem GX.upd {b : Nat} {L : List Nd} (h : GX w ρ b L) (u : Upd S w w') (d : ∀ k, k < w.heap.size → S k → ρ k ≠ .idx) (e : ∀ k, k < w.heap.size → ρ' k = ρ k) : GX w' ρ' b L :=
  ⟨h.1.upd u (fun hS => d b h.1.lt hS h.2), by rw [e b h.1.lt]; exact h.2⟩

/-- The steps. -/
def I64s (w : World) (F : Nat → Prop) (A : Option Addr) (xs : List Int) : Prop := Ints w F A xs
def StepCells (w : World) (K : Nat → Prop) (cs : List Value) (T : List Stp) : Prop :=
  cs.length = 5 * T.length ∧ ∀ i (h : i < T.length), ∃ VA vc MA mc, cs[5 * i]? = some (.int .i64 T[i].l) ∧ cs[5 * i + 1]? = some (.int .i64 T[i].r) ∧ cs[5 * i + 2]? = some (.int .i64 T[i].why) ∧
    cs[5 * i + 3]? = some (.slice VA T[i].vars.length vc) ∧ cs[5 * i + 4]? = some (.slice MA T[i].imms.length mc) ∧ T[i].vars.length ≤ vc ∧ T[i].imms.length ≤ mc ∧ Ints w K VA T[i].vars ∧ Ints w K MA T[i].imms
theorem StepCells.nil {K : Nat → Prop} : StepCells w K [] [] := ⟨rfl, fun i h => by simp at h⟩
theorem StepCells.mono {K K' : Nat → Prop} {cs : List Value} {T : List Stp} (h : StepCells w K cs T) (u : Upd S w w') (d : ∀ k, k < w.heap.size → K k → ¬ S k) (hK : ∀ k, k < w.heap.size → K k → K' k) : StepCells w' K' cs T := by
  have mv : ∀ {A : Option Addr} {xs : List Int}, Ints w K A xs → Ints w' K' A xs := fun h5 =>
    ((h5.mono (G := fun k => K' k ∧ K k) (fun k hk hK0 => ⟨hK k hk hK0, hK0⟩)).upd u (fun k hk hk' => d k hk hk'.2)).mono (fun _ _ h => h.1)
  refine ⟨h.1, fun i hi => ?_⟩
  obtain ⟨VA, vc, MA, mc, h1, h2, h3, h4, h5, h6, h7, h8, h9⟩ := h.2 i hi
  exact ⟨VA, vc, MA, mc, h1, h2, h3, h4, h5, h6, h7, mv h8, mv h9⟩
def stpCells (s : Stp) (VA MA : Option Addr) (vc mc : Nat) : List Value := [.int .i64 s.l, .int .i64 s.r, .int .i64 s.why, .slice VA s.vars.length vc, .slice MA s.imms.length mc]
theorem StepCells.snoc {K : Nat → Prop} {cs : List Value} {T : List Stp} (h : StepCells w K cs T) {s : Stp} {VA MA : Option Addr} {vc mc : Nat} (hv : Ints w K VA s.vars) (hm : Ints w K MA s.imms) (hvc : s.vars.length ≤ vc) (hmc : s.imms.length ≤ mc) :
    StepCells w K (cs ++ stpCells s VA MA vc mc) (T ++ [s]) := by
  have hl := h.1
  refine ⟨by simp [h.1, stpCells]; omega, fun i hi => ?_⟩
  by_cases hlt : i < T.length
  · obtain ⟨VA, vc, MA, mc, h1, h2, h3, h4, h5, h6⟩ := h.2 i hlt
    refine ⟨VA, vc, MA, mc, ?_, ?_, ?_, ?_, ?_, ?_⟩
    · rw [List.getElem?_append_left (by omega), List.getElem_append_left hlt]; exact h1
    · rw [List.getElem?_append_left (by omega), List.getElem_append_left hlt]; exact h2
    · rw [List.getElem?_append_left (by omega), List.getElem_append_left hlt]; exact h3
    · rw [List.getElem?_append_left (by omega), List.getElem_append_left hlt]; exact h4
    · rw [List.getElem?_append_left (by omega), List.getElem_append_left hlt]; exact h5
    · rw [List.getElem_append_left hlt]; exact h6
  · have he : i = T.length := by simp at hi; omega
    subst he
    refine ⟨VA, vc, MA, mc, ?_, ?_, ?_, ?_, ?_, ?_⟩
    · rw [List.getElem?_append_right (by omega), hl]; simp [stpCells]
    · rw [List.getElem?_append_right (by omega), hl]; simp [stpCells]
    · rw [List.getElem?_append_right (by omega), hl]; simp [stpCells]
    · rw [List.getElem?_append_right (by omega), hl]; simp [stpCells]
    · rw [List.getElem?_append_right (by omega), hl]; simp [stpCells]
    · simpa using ⟨hvc, hmc, hv, hm⟩
def GT (w : World) (ρ : Nat → Role) (A : Option Addr) (c : Nat) (T : List Stp) : Prop :=
  ∃ cs, Own w 34 5 A T.length c cs ∧ StepCells w (fun k => ρ k = .vars) cs T ∧ ∀ k, At A k → ρ k = .steps
theorem GT.upd {A : Option Addr} {c : Nat} {T : List Stp} (h : GT w ρ A c T) (u : Upd S w w') (d : ∀ k, k < w.heap.size → S k → ρ k ≠ .steps ∧ ρ k ≠ .vars) (e : ∀ k, k < w.heap.size → ρ' k = ρ k) : GT w' ρ' A c T := by
  obtain ⟨cs, h1, h2, h3⟩ := h
  refine ⟨cs, h1.upd u (fun k hk hS => (d k (h1.lt hk) hS).1 (h3 k hk)), h2.mono u (fun k hk hr hS => (d k hk hS).2 hr) (fun k hk hr => by rw [e k hk]; exact hr), fun k hk => ?_⟩
  rw [e k (h1.lt hk)]; exact h3 k hk
end

/-- Where the parts of a graph lie. -/
structure GA where
  l : Option Addr
  lc : Nat
  s : Option Addr
  sc : Nat
  f : Option Addr
  fc : Nat
  m : Option Addr
  mc : Nat
  o : Nat
  x : Nat
  t : Option Addr
  tc : Nat
def GA.cells (a : GA) (n m : Nat) : Array Value := #[.slice a.l n a.lc, .slice a.s n a.sc, .slice a.f n a.fc, .slice a.m n a.mc, .map (some a.o), .map (some a.x), .slice a.t m a.tc]

/-- Block gb is the graph G. -/
structure GM (w : World) (ρ : Nat → Role) (gb : Nat) (a : GA) (G : EG) : Prop where
  bnd : ∀ k, ρ k ≠ .no → k < w.heap.size
  me : ρ gb = .me
  blk : Blk w gb 73 (a.cells G.L.length G.T.length)
  l : GL w ρ a.l a.lc G.L
  s : GI w ρ .sorts a.s a.sc (sortsF G.L)
  f : GI w ρ .find a.f a.fc (clL G.L G.c)
  m : GMm w ρ a.m a.mc G.L.length G.c
  o : GO w ρ a.o G.L
  x : GX w ρ a.x G.L
  t : GT w ρ a.t a.tc G.T
theorem GM.non {w w' : World} {ρ : Nat → Role} {gb : Nat} {a : GA} {G : EG} (h : GM w ρ gb a G) (u : Upd Non w w') : GM w' ρ gb a G :=
  ⟨fun k hk => Nat.lt_of_lt_of_le (h.bnd k hk) u.size, h.me, h.blk.upd u (fun f => f), h.l.upd u (fun _ _ f => f.elim) (fun _ _ => rfl), h.s.upd u (fun _ _ f => f.elim) (fun _ _ => rfl), h.f.upd u (fun _ _ f => f.elim) (fun _ _ => rfl),
    h.m.upd u (fun _ _ f => f.elim) (fun _ _ => rfl), h.o.upd u (fun _ _ f => f.elim) (fun _ _ => rfl), h.x.upd u (fun _ _ f => f.elim) (fun _ _ => rfl), h.t.upd u (fun _ _ f => f.elim) (fun _ _ => rfl)⟩
/-- A world where only blocks that are not the graph's have turned. -/
theorem GM.far {w w' : World} {ρ : Nat → Role} {gb : Nat} {a : GA} {G : EG} {S : Nat → Prop} (h : GM w ρ gb a G) (u : Upd S w w') (d : ∀ k, S k → ρ k = .no) : GM w' ρ gb a G := by
  have d' : ∀ (r : Role), r ≠ .no → ∀ k, k < w.heap.size → S k → ρ k ≠ r := fun r hr k _ hS e => hr (by rw [← e]; exact d k hS)
  exact ⟨fun k hk => Nat.lt_of_lt_of_le (h.bnd k hk) u.size, h.me, h.blk.upd u (fun hS => by have := d gb hS; rw [h.me] at this; cases this), h.l.upd u (fun k hk hS => ⟨d' _ (by simp) k hk hS, d' _ (by simp) k hk hS⟩) (fun _ _ => rfl), h.s.upd u (d' _ (by simp)) (fun _ _ => rfl), h.f.upd u (d' _ (by simp)) (fun _ _ => rfl),
    h.m.upd u (fun k hk hS => ⟨d' _ (by simp) k hk hS, d' _ (by simp) k hk hS⟩) (fun _ _ => rfl), h.o.upd u (fun k hk hS => ⟨d' _ (by simp) k hk hS, fun a => d' _ (by simp) k hk hS⟩) (fun _ _ => rfl), h.x.upd u (d' _ (by simp)) (fun _ _ => rfl), h.t.upd u (fun k hk hS => ⟨d' _ (by simp) k hk hS, d' _ (by simp) k hk hS⟩) (fun _ _ => rfl)⟩
end Go.Proofs.Ytigambcefdeaoaa
