/-
  Lemmas and walks that the claim rests on, part 4 (packed by a program).
-/
import Derived.Test.YtblkgjdhaibhgaaZ1
import Derived.Test.YtblkgjdhaibhgaaZ3
namespace Go.Proofs.Ytblkgjdhaibhgaa
def Mild {α : Type} : Sem α → Prop
 | .pure _ => True
 | .load _ _ k => ∀ v, Mild (k v)
 | .store .. => False
 | .new _ k => ∀ r, Mild (k r)
 | .shape _ k => ∀ s, Mild (k s)
 | .freeze .. => False
 | .frozen _ k => ∀ b, Mild (k b)
 | .getObj _ k => ∀ o, Mild (k o)
 | .setObj .. => False
 | .choose _ k => ∀ n, Mild (k n)
 | .sys .. => False
 | .program k => ∀ p, Mild (k p)
 | .mark _ k => Mild k
 | .halt _ => True
theorem Mild.bind_ {α β : Type} {f : α → Sem β} (hf : ∀ a, Mild (f a)) : ∀ (s : Sem α), Mild s → Mild (s.bind f)
 | .pure a, _ => hf a
 | .load _ _ k, h => fun v => Mild.bind_ hf (k v) (h v)
 | .new _ k, h => fun v => Mild.bind_ hf (k v) (h v)
 | .shape _ k, h => fun v => Mild.bind_ hf (k v) (h v)
 | .frozen _ k, h => fun v => Mild.bind_ hf (k v) (h v)
 | .getObj _ k, h => fun v => Mild.bind_ hf (k v) (h v)
 | .choose _ k, h => fun v => Mild.bind_ hf (k v) (h v)
 | .program k, h => fun v => Mild.bind_ hf (k v) (h v)
 | .mark _ k, h => Mild.bind_ hf k h
 | .halt _, _ => trivial
 | .store .., h => h.elim
 | .freeze .., h => h.elim
 | .setObj .., h => h.elim
 | .sys .., h => h.elim
theorem Mild.bind {α β : Type} {s : Sem α} {f : α → Sem β} (hs : Mild s) (hf : ∀ a, Mild (f a)) : Mild (s >>= f) := Mild.bind_ hf s hs
structure Calmly (R : World → Prop) : Prop where
 alloc : ∀ w o, R w → R (w.alloc o)
 draw : ∀ w : World, R w → R { w with drawn := w.drawn + 1 }
theorem Mild.run {α : Type} {P : Program} {R : World → Prop} (hR : Calmly R) : ∀ (s : Sem α) (w : World), Mild s → R w → ∀ a w', s.run P w = .ok a w' → R w'
 | .pure _, w, _, h, a, w', e => by simp only [Sem.run] at e; cases e; exact h
 | .load m p k, w, hm, h, a, w', e => by
  simp only [Sem.run] at e
  split at e
  ·
   exact Mild.run hR _ w (hm _) h a w' e
  ·
   split at e
   ·
    exact Mild.run hR _ w (hm _) h a w' e
   ·
    cases e
 | .new o k, w, hm, h, a, w', e => by
  simp only [Sem.run] at e
  exact Mild.run hR (k w.heap.size) _ (hm _) (hR.alloc w o h) a w' e
 | .shape r k, w, hm, h, a, w', e => by simp only [Sem.run] at e; exact Mild.run hR _ w (hm _) h a w' e
 | .frozen r k, w, hm, h, a, w', e => by simp only [Sem.run] at e; exact Mild.run hR _ w (hm _) h a w' e
 | .getObj r k, w, hm, h, a, w', e => by
  simp only [Sem.run] at e
  split at e
  ·
   cases e
  ·
   exact Mild.run hR _ w (hm _) h a w' e
  ·
   cases e
 | .choose q k, w, hm, h, a, w', e => by
  simp only [Sem.run] at e
  split at e
  ·
   exact Mild.run hR _ w (hm _) h a w' e
  ·
   exact Mild.run hR _ _ (hm _) (hR.draw w h) a w' e
 | .program k, w, hm, h, a, w', e => by simp only [Sem.run] at e; exact Mild.run hR _ w (hm _) h a w' e
 | .mark _ k, w, hm, h, a, w', e => by simp only [Sem.run] at e; exact Mild.run hR k w hm h a w' e
 | .halt _, w, _, h, a, w', e => by simp only [Sem.run] at e; cases e
 | .store .., _, h, _, _, _, _ => h.elim
 | .freeze .., _, h, _, _, _, _ => h.elim
 | .setObj .., _, h, _, _, _, _ => h.elim
 | .sys .., _, h, _, _, _, _ => h.elim
theorem Mild.underlying (t : TypeId) : Mild (Go.underlying t) := by unfold Go.underlying; exact Mild.bind (fun _ => trivial) (fun _ => by split <;> trivial)
theorem Mild.typeInfo (t : TypeId) : Mild (Go.typeInfo t) := by unfold Go.typeInfo; exact Mild.bind (fun _ => trivial) (fun _ => by split <;> trivial)
theorem Mild.sizeOf (t : TypeId) : Mild (Go.sizeOf t) := by unfold Go.sizeOf; exact Mild.bind (Mild.typeInfo t) (fun _ => trivial)
theorem Mild.isAgg (t : TypeId) : Mild (Go.isAgg t) := by unfold Go.isAgg; exact Mild.bind (Mild.underlying t) (fun _ => by split <;> trivial)
theorem Mild.load (a : Addr) : Mild (load a) := fun _ => trivial
theorem Mild.loadCellsFrom (a : Addr) : ∀ (n i : Nat) (acc : Array Value), Mild (loadCellsFrom a i n acc)
 | 0, _, _ => trivial
 | n + 1, i, acc => by unfold Go.loadCellsFrom; exact Mild.bind (Mild.load _) (fun _ => Mild.loadCellsFrom a n _ _)
theorem Mild.loadVar (t : TypeId) (a : Addr) : Mild (loadVar t a) := by
 unfold Go.loadVar
 refine Mild.bind (Mild.isAgg t) (fun b => ?_)
 cases b with
 | true => exact Mild.bind (Mild.sizeOf t) (fun _ => Mild.bind (Mild.loadCellsFrom _ _ _ _) (fun _ => trivial))
 | false => exact Mild.load a
theorem Mild.sureAddr (v : Value) : Mild (Instr.sureAddr v) := by unfold Instr.sureAddr; split <;> trivial
theorem Mild.loadAt (t : TypeId) (v : Value) : Mild (Instr.loadAt t v) := by unfold Instr.loadAt; exact Mild.bind (Mild.sureAddr v) (fun _ => Mild.loadVar t _)
theorem Mild.choose (q : Question) : Mild (Go.choose q) := fun _ => trivial
theorem Mild.map {α β : Type} {f : α → β} {s : Sem α} (h : Mild s) : Mild (f <$> s) := by
 show Mild (s.bind (fun a => Sem.pure (f a)))
 exact Mild.bind_ (f := fun a => Sem.pure (f a)) (fun _ => True.intro) s h
theorem Mild.runtimePanic {α : Type} (e : RuntimeError) : Mild (Go.runtimePanic (α := α) e) := by
 unfold Go.runtimePanic
 refine Mild.bind (fun _ => trivial) (fun _ => ?_)
 dsimp only
 repeat' (first | exact trivial | exact (fun _ => trivial) | refine Mild.bind ?_ (fun _ => ?_) | split)
theorem Mild.boundsPanic {α : Type} (k : IntKind) (x y : Int) (c : BoundsCode) : Mild (Go.boundsPanic (α := α) k x y c) := by
 unfold Go.boundsPanic
 dsimp only
 split
 ·
  exact Mild.bind (Mild.map (Mild.choose _)) (fun _ => Mild.runtimePanic _)
 ·
  exact Mild.bind (s := pure _) trivial (fun _ => Mild.runtimePanic _)
theorem Mild.asIntOf (v : Value) : Mild (Go.asIntOf v) := by unfold Go.asIntOf; split <;> trivial
theorem Mild.asBool (v : Value) : Mild (Go.asBool v) := by unfold Go.asBool; split <;> trivial
theorem Mild.asAddr (v : Value) : Mild (Go.asAddr v) := by unfold Go.asAddr; split <;> first | trivial | exact Mild.runtimePanic _
theorem Mild.sliceBound (x : Value) (y : Nat) (c : BoundsCode) : Mild (Instr.sliceBound x y c) := by
 unfold Instr.sliceBound
 refine Mild.bind (Mild.asIntOf x) (fun _ => ?_)
 dsimp only
 split
 ·
  exact trivial
 ·
  exact Mild.boundsPanic _ _ _ _
theorem Mild.sliceBounds (b : Bool) (l c : Nat) (x y z : Option Value) : Mild (Instr.sliceBounds b l c x y z) := by
 unfold Instr.sliceBounds
 repeat' (first | exact trivial | exact Mild.sliceBound _ _ _ | refine Mild.bind ?_ (fun _ => ?_) | split)
theorem Mild.slice (t : TypeId) (v : Value) (x y z : Option Value) : Mild (Instr.slice t v x y z) := by
 unfold Instr.slice
 repeat' (first | exact trivial | exact Mild.underlying _ | exact Mild.sizeOf _ | exact Mild.asAddr _ | exact Mild.sliceBounds _ _ _ _ _ _ | refine Mild.bind ?_ (fun _ => ?_) | split)
theorem Mild.sliceAt (t : TypeId) (v : Value) (x y z : Option Value) : Mild (Instr.sliceAt t v x y z) := by
 unfold Instr.sliceAt
 repeat' (first | exact trivial | exact Mild.underlying _ | exact Mild.sizeOf _ | exact Mild.sureAddr _ | exact Mild.sliceBounds _ _ _ _ _ _ | exact Mild.slice _ _ _ _ _ | refine Mild.bind ?_ (fun _ => ?_) | split)
theorem Mild.len_ (a : Array TypeId) (t : TypeId) (args : Array Value) : Mild (Builtin.len_ a t args) := by
 unfold Builtin.len_
 repeat' (first | exact trivial | exact Mild.underlying _ | exact (fun _ => trivial) | refine Mild.bind ?_ (fun _ => ?_) | split)
theorem Mild.stringOp (o : BinOp) (x y : ByteArray) : Mild (Op.stringOp o x y) := by
 unfold Op.stringOp
 dsimp only
 repeat' (first | exact trivial | split)
theorem Mild.min2 (x y : Value) : Mild (Builtin.min2 x y) := by
 unfold Builtin.min2
 repeat' (first | exact trivial | exact Mild.choose _ | exact Mild.stringOp _ _ _ | exact Mild.asBool _ | refine Mild.bind ?_ (fun _ => ?_) | split)
theorem Mild.foldlM {α β : Type} {f : β → α → Sem β} (h : ∀ b a, Mild (f b a)) : ∀ (l : List α) (b : β), Mild (l.foldlM f b)
 | [], _ => trivial
 | a :: l, b => by rw [List.foldlM_cons]; exact Mild.bind (h b a) (fun c => Mild.foldlM h l c)
theorem Mild.min_ (a : Array TypeId) (t : TypeId) (args : Array Value) : Mild (Builtin.min_ a t args) := by
 unfold Builtin.min_
 split
 ·
  exact trivial
 ·
  exact Mild.foldlM (fun _ _ => Mild.min2 _ _) _ _
theorem Mild.indexAt (t : TypeId) (x v : Value) : Mild (Instr.indexAt t x v) := by
 unfold Instr.indexAt
 repeat' (first | exact trivial | exact Mild.underlying _ | exact Mild.sizeOf _ | exact Mild.asIntOf _ | exact Mild.sureAddr _ | exact Mild.boundsPanic _ _ _ _ | refine Mild.bind ?_ (fun _ => ?_) | split | dsimp only)
theorem Mild.zeroValue (t : TypeId) : Mild (Go.zeroValue t) := by unfold Go.zeroValue; exact Mild.bind (Mild.typeInfo t) (fun _ => by split <;> trivial)
theorem Mild.newRow (t : TypeId) (cs : Array Value) : Mild (Go.newRow t cs) := Mild.bind (fun _ => trivial) (fun _ => trivial)
theorem Mild.box (t : TypeId) (v : Value) : Mild (Instr.box t v) := Mild.bind (Mild.newRow _ _) (fun _ => trivial)
theorem Mild.alloc (t : TypeId) : Mild (Instr.alloc t true (.tuple #[])) := Mild.bind (Mild.zeroValue t) (fun _ => Mild.bind (Mild.newRow _ _) (fun _ => trivial))
theorem Mild.buildSlice (t : TypeId) (n : Nat) (ps : Array (Nat × Value)) : Mild (Instr.buildSlice t n ps) := by
 unfold Instr.buildSlice
 repeat' (first | exact trivial | exact Mild.underlying _ | exact Mild.sizeOf _ | exact Mild.zeroValue _ | exact Mild.newRow _ _ | refine Mild.bind ?_ (fun _ => ?_) | split | dsimp only)
def MildOp (o : Oper) : Prop := ∀ ev, ∃ s : Sem Value, Mild s ∧ execOp ev o = s.bind (fun a => .pure (.value a))
def mildB : Op → Bool
 | .move _ => true
 | .assign _ => true
 | .load .. => true
 | .slice .. => true
 | .indexAddr .. => true
 | .buildSlice .. => true
 | .box .. => true
 | .alloc .. => true
 | .call { callee := .builtin .len, .. } => true
 | .call { callee := .builtin .min, .. } => true
 | _ => false
theorem mildB_spec {o : Oper} (h : mildB o.op = true) : MildOp o := by
 obtain ⟨d, op, _, _, _, _⟩ := o
 intro ev
 dsimp only at h
 cases op with
 | move x => exact ⟨.pure (ev x), trivial, rfl⟩
 | assign x => exact ⟨.pure (ev x), trivial, rfl⟩
 | load t a => exact ⟨_, Mild.loadAt t (ev a), rfl⟩
 | slice t x lo hi mx => exact ⟨_, Mild.sliceAt _ _ _ _ _, rfl⟩
 | indexAddr t x i => exact ⟨_, Mild.indexAt _ _ _, rfl⟩
 | buildSlice t n ps => exact ⟨_, Mild.buildSlice _ _ _, rfl⟩
 | box t x => exact ⟨_, Mild.box _ _, rfl⟩
 | alloc t => exact ⟨_, Mild.alloc _, rfl⟩
 | call c =>
  obtain ⟨cl, ar, ty⟩ := c
  cases cl with
  | builtin b => cases b with
   | len => exact ⟨_, Mild.len_ _ _ _, rfl⟩
   | min => exact ⟨_, Mild.min_ _ _ _, rfl⟩
   | _ => cases h
  | _ => cases h
 | _ => cases h
section
variable {P : Program} {ops : Array Oper} {Q : Exit → Act → World → Prop} {md : Region.Mode} {S R : World → Prop}
theorem wpOp_mild (hR : Calmly R) {j : Nat} {oj : Oper} (hj : ops[j]? = some oj) (hm : MildOp oj) {K : Act → World → Prop} {a : Act} {w : World} (hRw : R w) (h : wpOp P ops Q j K a w) : wpOp P ops Q j (fun a' w' => R w' ∧ K a' w') a w := by
 unfold wpOp at *
 simp only [hj] at *
 split
 ·
  rename_i hw
  simp only [hw, if_true] at h
  rcases h with h | h
  ·
   left
   unfold Oper.wp at *
   obtain ⟨s, hs, he⟩ := hm a.eval
   have hr : (execOp a.eval oj).run P w = (s.run P w).andThen (fun v w' => .ok (.value v) w') := by rw [he]; exact Sem.run_bind P w s _
   rw [hr] at h ⊢
   cases e : s.run P w with
   | ok v w' => rw [e] at h; exact ⟨Mild.run hR s w hs hRw v w' e, h⟩
   | halt x w' => rw [e] at h; cases x <;> exact h
  ·
   exact .inr h
 ·
  rename_i hw
  simp only [hw] at h
  exact ⟨hRw, h⟩
def keptB (md : Region.Mode) (ops : Array Oper) (listed : Array Bool) (i : Nat) (B : List Nat) : Bool :=
 (B.all fun j => !listed.getD j true && !(j == i)) && (List.range ops.size).all fun j => j == i || listed.getD j true || match ops[j]? with
  | some o => if B.contains j then o.after.any (fun e => Region.binds md e && (e.on == i || B.contains e.on)) else mildB o.op
  | none => true
theorem first_mild (hR : Calmly R) {B : List Nat} {i : Nat} {oi : Oper} {v : Value} (hi : ops[i]? = some oi) (hsel : ∀ (j : Nat) (o : Oper) cs b, ops[j]? = some o → o.op ≠ .select cs b)
  (hQ : ∀ c a w, Q (.panic c) (a.put oi.dst v) w → Q (.panic c) a w) (hB2 : ∀ j ∈ B, ∀ oj, ops[j]? = some oj → ∃ e ∈ oj.after, Region.binds md e = true ∧ (e.on = i ∨ e.on ∈ B)) :
  ∀ (fuel : Nat) (listed : Array Bool) (a : Act) (w : World),
   (∀ j oj, ops[j]? = some oj → j ≠ i → listed.getD j true = false → (∀ e ∈ oj.after, Region.binds md e = true → e.on ≠ i) → oi.apart ops oj = true) →
   (∀ j oj, ops[j]? = some oj → j ≠ i → listed.getD j true = false → j ∉ B → MildOp oj) → (∀ j ∈ B, listed.getD j true = false) →
   i ∈ Region.ready md ops listed → YieldsIf P ops R oi v a → R w → S w →
   wpAnyH P md ops Q S fuel (listed.setIfInBounds i true) (a.put oi.dst v) w → wpAnyH P md ops Q S (fuel + 1) listed a w := by
 intro fuel
 induction fuel with
 | zero =>
  intro listed a w _ _ _ hr hy hRw hS H
  refine ⟨fun h => (by rw [h] at hr; cases hr), fun j hj => ?_⟩
  by_cases hji : j = i
  ·
   subst hji; exact hy.wpOp hi hRw ⟨hS, H⟩
  ·
   have := ready_mono hj hji
   rw [H.1] at this
   cases this
 | succ fuel ih =>
  intro listed a w hfree hmild hB1 hr hy hRw hS H
  refine ⟨fun h => (by rw [h] at hr; cases hr), fun j hj => ?_⟩
  by_cases hji : j = i
  ·
   subst hji; exact hy.wpOp hi hRw ⟨hS, H⟩
  ·
   have h1 := H.2 j (ready_mono hj hji)
   obtain ⟨hjun, oj, hoj, hall⟩ := mem_ready.1 hj
   have hi0 := (mem_ready.1 hr).1
   have hoff : ∀ k, listed.getD k true = false → listed.getD k false = true → False := fun k h0 h1 => by
    rcases Nat.lt_or_ge k listed.size with q | q
    ·
     simp [q] at h0 h1; rw [h0] at h1; cases h1
    ·
     simp [Array.getElem?_eq_none q] at h1
   have hnot : ∀ e ∈ oj.after, Region.binds md e = true → e.on ≠ i := fun e he hb heq => hoff i hi0 (by rw [← heq]; exact hall e he hb)
   have hjB : j ∉ B := fun hB => by
    obtain ⟨e, he, hb, q | q⟩ := hB2 j hB oj hoj
    ·
     exact hnot e he hb q
    ·
     exact hoff _ (hB1 _ q) (hall e he hb)
   have h2 := wpOp_mild hR hoj (hmild j oj hoj hji hjun hjB) hRw (wpOp_putIf hoj (hfree j oj hoj hji hjun hnot) (fun cs b => hsel i oi cs b hi) (fun cs b => hsel j oj cs b hoj) hQ hy h1)
   have un : ∀ k, k ≠ i → (listed.setIfInBounds j true).getD k true = false → listed.getD k true = false := fun k _ hun => by
    by_cases hjk : j = k
    ·
     subst hjk; exact hjun
    ·
     rw [getD_set_ne true hjk] at hun; exact hun
   refine wpOp_mono (fun a' w' h3 => ⟨h3.2.2.1, ih (listed.setIfInBounds j true) a' w' (fun k ok hk hki hun hno => hfree k ok hk hki (un k hki hun) hno) (fun k ok hk hki hun hkB => hmild k ok hk hki (un k hki hun) hkB) (fun k hk => ?_) (ready_mono hr (Ne.symm hji)) h3.2.1 h3.1 h3.2.2.1 ?_⟩) h2
   ·
    rw [getD_set_ne true (fun e => hjB (by rw [e]; exact hk))]; exact hB1 k hk
   ·
    rw [Array.setIfInBounds_comm _ _ hji]
    exact h3.2.2.2
theorem wpAnyH_takeM (R : World → Prop) (hR : Calmly R) (B : List Nat) {i : Nat} {oi : Oper} {v : Value} {fuel : Nat} {listed : Array Bool} {a : Act} {w : World} (hi : ops[i]? = some oi)
  (hs : Region.noSelect ops = true) (hf : Region.free md ops listed i = true) (hb : keptB md ops listed i B = true) (hr : (Region.ready md ops listed).contains i = true)
  (hQ : ∀ c a w, Q (.panic c) (a.put oi.dst v) w → Q (.panic c) a w) (hy : YieldsIf P ops R oi v a) (hRw : R w) (hS : S w)
  (h : wpAnyH P md ops Q S fuel (listed.setIfInBounds i true) (a.put oi.dst v) w) : wpAnyH P md ops Q S (fuel + 1) listed a w := by
 simp only [keptB, Bool.and_eq_true, List.all_eq_true, Bool.not_eq_true', List.mem_range, beq_eq_false_iff_ne] at hb
 obtain ⟨b0, b2⟩ := hb
 have b1 : ∀ j ∈ B, listed.getD j true = false := fun j hj => (b0 j hj).1
 refine first_mild hR hi (Region.noSelect_spec hs) hQ (fun j hj oj hoj => ?_) fuel listed a w (Region.free_spec hi hf) (fun j oj hoj hji hun hjB => ?_) b1 (by simpa using hr) hy hRw hS h
 ·
  have := b2 j (Array.getElem?_eq_some_iff.1 hoj).1
  rw [hoj, b1 j hj] at this
  simp only [Bool.or_false, Bool.or_eq_true, beq_iff_eq, (b0 j hj).2, false_or] at this
  rw [if_pos (by simpa using hj)] at this
  obtain ⟨e, he, hb⟩ := Array.any_eq_true'.1 this
  simp only [Bool.and_eq_true, Bool.or_eq_true, beq_iff_eq] at hb
  exact ⟨e, he, hb.1, hb.2.imp id (fun q => by simpa using q)⟩
 ·
  have := b2 j (Array.getElem?_eq_some_iff.1 hoj).1
  rw [hoj, hun] at this
  simp only [Bool.or_false, Bool.or_eq_true, beq_iff_eq, hji, false_or] at this
  rw [if_neg (by simpa using hjB)] at this
  exact mildB_spec this
end
theorem calm_cell (p : Addr) (v : Value) : Calmly (fun w => w.cell? p = some v) :=
 ⟨fun w o h => by rw [World.cell?_alloc_lt _ _ _ (World.block_lt_of_cell? w p h)]; exact h, fun _ h => h⟩
end Go.Proofs.Ytblkgjdhaibhgaa
namespace Go.Proofs.Ytblkgjdhaibhgaa
open Go.RowKit
def set5o (w : World) (g o : Nat) (a b c d e : Value) : World := ((((w.setCell ⟨g, o, none⟩ a).setCell ⟨g, o + 1, none⟩ b).setCell ⟨g, o + 2, none⟩ c).setCell ⟨g, o + 3, none⟩ d).setCell ⟨g, o + 4, none⟩ e
theorem set5o_upd (w : World) (g o : Nat) (a b c d e : Value) : Upd (· = g) w (set5o w g o a b c d e) :=
 ((((Upd.refl.setCell (S := (· = g)) (p := ⟨g, o, none⟩) (.inl rfl) _).setCell (p := ⟨g, o + 1, none⟩) (.inl rfl) _).setCell (p := ⟨g, o + 2, none⟩) (.inl rfl) _).setCell (p := ⟨g, o + 3, none⟩) (.inl rfl) _).setCell (p := ⟨g, o + 4, none⟩) (.inl rfl) _
theorem set5o_list (cs : List Value) (z0 z1 z2 z3 z4 a b c d e : Value) : (((((cs ++ [z0, z1, z2, z3, z4]).set cs.length a).set (cs.length + 1) b).set (cs.length + 2) c).set (cs.length + 3) d).set (cs.length + 4) e = cs ++ [a, b, c, d, e] := by
 induction cs with
 | nil => rfl
 | cons x cs _ => simp
theorem Own.set5o {w : World} {t : TypeId} {g n c : Nat} {cs : List Value} {z0 z1 z2 z3 z4 : Value} (h : Own w t 5 (some ⟨g, 0, none⟩) n c (cs ++ [z0, z1, z2, z3, z4])) {o : Nat} (ho : o = cs.length) (a b c' d e : Value) : Own (set5o w g o a b c' d e) t 5 (some ⟨g, 0, none⟩) n c (cs ++ [a, b, c', d, e]) := by
 rcases h.cases with ⟨h0, _⟩ | ⟨g', cur, e1, hb, hn, hm, hs, ht⟩
 ·
  cases h0
 ·
  injection e1 with e1; injection e1 with e1; subst e1; subst ho
  refine Own.mk_ (((((hb.set_ cs.length a).set_ (cs.length + 1) b).set_ (cs.length + 2) c').set_ (cs.length + 3) d).set_ (cs.length + 4) e) hn hm (by simpa using hs) ?_
  rw [← set5o_list cs z0 z1 z2 z3 z4, ← ht]
  simp only [Array.toList_setIfInBounds, List.take_set]
theorem Own.cell5 {w : World} {t : TypeId} {g n c : Nat} {cs zs : List Value} (h : Own w t 5 (some ⟨g, 0, none⟩) n c (cs ++ zs)) {o i : Nat} (ho : o = cs.length) (hi : i < zs.length) : w.cell? ⟨g, o + i, none⟩ = some zs[i] := by
 rcases h.cases with ⟨h0, _⟩ | ⟨g', cur, e1, hb, hn, hm, hs, ht⟩
 ·
  cases h0
 ·
  injection e1 with e1; injection e1 with e1; subst e1; subst ho
  rw [hb.cell]
  have e : (cur.toList.take (n * 5))[cs.length + i]? = some zs[i] := by rw [ht, List.getElem?_append_right (by omega)]; simp
  rw [List.getElem?_take] at e
  split at e
  ·
   simpa using e
  ·
   cases e
theorem Own.frozen5 {w : World} {t : TypeId} {g n c z : Nat} {cs : List Value} (h : Own w t z (some ⟨g, 0, none⟩) n c cs) (i : Nat) : w.frozen? ⟨g, i, none⟩ = false := by
 rcases h.cases with ⟨h0, _⟩ | ⟨g', cur, e1, hb, hn, hm, hs, ht⟩
 ·
  cases h0
 ·
  injection e1 with e1; injection e1 with e1; subst e1
  exact hb.frozen i
theorem RdS.own_ne {w : World} {p : Nat} {A A' : Option Addr} {c n c' : Nat} {L : List Tok} {x : St} {cs : List Value} (h : RdS w p A c L x) (o : Own w 30 5 A' n c' cs) : ∀ k, At A' k → ¬ x.own p k := fun k hk q => by
 rcases q with rfl | q | q
 ·
  exact o.ne_blk h.blk (by decide) hk
 ·
  exact o.ne_type h.v (by decide) hk q
 ·
  exact o.ne_type h.m (by decide) hk q
structure AppS (w0 w : World) (p : Nat) (A : Option Addr) (c : Nat) (L : List Tok) (x y : St) (pc : Array Value) : Prop where
 rd : RdS w p A c L y
 box : Blk w w0.heap.size 53 #[.pointer (some ⟨p, 0, none⟩)]
 res : Blk w (w0.heap.size + 1) 30 (p0 (.mk 0 0 0 0 []))
 pat : Blk w (w0.heap.size + 2) 30 pc
 own : ∀ k, y.own p k → x.own p k ∨ w0.heap.size + 3 ≤ k
 xlt : ∀ k, x.own p k → k < w0.heap.size
 upd : Upd (x.own p) w0 w
section
variable {w0 w w' : World} {p : Nat} {A : Option Addr} {c : Nat} {L : List Tok} {x y y' : St} {pc : Array Value}
theorem AppS.le (h : AppS w0 w p A c L x y pc) : w0.heap.size + 3 ≤ w.heap.size := h.pat.lt
theorem AppS.non (h : AppS w0 w p A c L x y pc) (u : Upd Non w w') : AppS w0 w' p A c L x y pc :=
 ⟨h.rd.non u, h.box.upd u (fun f => f), h.res.upd u (fun f => f), h.pat.upd u (fun f => f), h.own, h.xlt, h.upd.then_non u⟩
theorem AppS.call (h : AppS w0 w p A c L x y pc) (hr : RdS w' p A c L y') (ho : ∀ k, y'.own p k → y.own p k ∨ w.heap.size ≤ k) (u : Upd (y.own p) w w') : AppS w0 w' p A c L x y' pc := by
 have hl := h.le
 have hn : ∀ k, w0.heap.size ≤ k → k < w0.heap.size + 3 → ¬ y.own p k := fun k h1 h2 q => by
  rcases h.own k q with r | r
  ·
   have := h.xlt k r; omega
  ·
   omega
 refine ⟨hr, h.box.upd u (hn _ (by omega) (by omega)), h.res.upd u (hn _ (by omega) (by omega)), h.pat.upd u (hn _ (by omega) (by omega)), fun k q => ?_, h.xlt, h.upd.trans u (fun k hk q => ?_)⟩
 ·
  rcases ho k q with r | r
  ·
   exact h.own k r
  ·
   exact .inr (by omega)
 ·
  rcases h.own k q with r | r
  ·
   exact r
  ·
   omega
theorem AppS.far {S : Nat → Prop} (h : AppS w0 w p A c L x y pc) (u : Upd S w w') (hS : ∀ k, S k → w0.heap.size + 3 ≤ k) (hy : ∀ k, S k → ¬ y.own p k) (hp : p < w0.heap.size) : AppS w0 w' p A c L x y pc :=
 ⟨h.rd.upd u (fun k _ q => ⟨by have := hS k q; omega, fun r => hy k q (.inr (.inl r)), fun r => hy k q (.inr (.inr r))⟩), h.box.upd u (fun q => by have := hS _ q; omega), h.res.upd u (fun q => by have := hS _ q; omega), h.pat.upd u (fun q => by have := hS _ q; omega), h.own, h.xlt, h.upd.trans u (fun k hk q => by have := hS k q; omega)⟩
theorem AppS.setPat {pc' : Array Value} (h : AppS w0 w p A c L x y pc) (u : Upd (· = w0.heap.size + 2) w w') (hb : Blk w' (w0.heap.size + 2) 30 pc') : AppS w0 w' p A c L x y pc' := by
 have hn : ¬ y.own p (w0.heap.size + 2) := fun q => by
  rcases h.own _ q with r | r
  ·
   have := h.xlt _ r; omega
  ·
   omega
 refine ⟨h.rd.upd u (fun k _ e => ?_), h.box.upd u (by omega), h.res.upd u (by omega), hb, h.own, h.xlt, h.upd.trans u (fun k hk e => by omega)⟩
 subst e
 have := h.xlt p (.inl rfl)
 exact ⟨by omega, fun r => hn (.inr (.inl r)), fun r => hn (.inr (.inr r))⟩
end
def zs5 : List Value := [.int .i64 0, .int .i64 0, .int .i64 0, .int .i64 0, .slice none 0 0]
def KO (n0 p : Nat) (w : World) (y : St) (A : Option Addr) (n c : Nat) (ks : List Pt) : Prop := PtO w (fun k => n0 ≤ k ∧ ¬ y.own p k) A n c ks ∧ ∀ k, At A k → n0 ≤ k
def KO2 (n0 p : Nat) (w : World) (y : St) (A : Option Addr) (j c : Nat) (ks : List Pt) : Prop :=
 j = ks.length ∧ (∃ cs, Own w 30 5 A (j + 1) c (cs ++ zs5) ∧ PtCells w (fun k => (n0 ≤ k ∧ ¬ y.own p k) ∧ ¬ At A k) cs ks) ∧ ∀ k, At A k → n0 ≤ k
section
variable {n0 p : Nat} {w w' : World} {A0 : Option Addr} {c0 : Nat} {L : List Tok} {y y' : St} {A : Option Addr} {n j c : Nat} {ks : List Pt} {S : Nat → Prop}
theorem KO.nil : KO n0 p w y none 0 0 [] := ⟨PtO.none_, fun _ h => (At.none_ h).elim⟩
theorem KO.step (h : KO n0 p w y A n c ks) (hr : RdS w p A0 c0 L y) (u : Upd (y.own p) w w') (ho : ∀ k, y'.own p k → y.own p k ∨ w.heap.size ≤ k) : KO n0 p w' y' A n c ks := by
 obtain ⟨h1, h2⟩ := h
 obtain ⟨_, cs, hown, _⟩ := id h1
 have hne := hr.own_ne hown
 refine ⟨?_, h2⟩
 have g1 : PtO w (fun k => (n0 ≤ k ∧ ¬ y.own p k) ∧ k < w.heap.size) A n c ks := h1.mono (fun k hk q => ⟨q, hk⟩)
 exact (g1.upd u hne (fun k _ q => q.1.2)).mono (fun k _ q => ⟨q.1.1, fun r => by rcases ho k r with r | r; exact q.1.2 r; exact Nat.lt_irrefl _ (Nat.lt_of_lt_of_le q.2 r)⟩)
theorem KO.non (h : KO n0 p w y A n c ks) (u : Upd Non w w') : KO n0 p w' y A n c ks := ⟨h.1.upd u (fun _ _ f => f) (fun _ _ _ f => f), h.2⟩
theorem KO2.non (h : KO2 n0 p w y A j c ks) (u : Upd Non w w') : KO2 n0 p w' y A j c ks := by
 obtain ⟨h1, ⟨cs, h2, h3⟩, h4⟩ := h
 exact ⟨h1, ⟨cs, h2.upd u (fun _ _ f => f), h3.mono u (fun _ _ _ f => f) (fun _ _ q => q)⟩, h4⟩
theorem KO2.step (h : KO2 n0 p w y A j c ks) (hr : RdS w p A0 c0 L y) (u : Upd (y.own p) w w') (ho : ∀ k, y'.own p k → y.own p k ∨ w.heap.size ≤ k) : KO2 n0 p w' y' A j c ks := by
 obtain ⟨h1, ⟨cs, h2, h3⟩, h4⟩ := h
 refine ⟨h1, ⟨cs, h2.upd u (hr.own_ne h2), ?_⟩, h4⟩
 exact h3.mono u (fun k _ q => q.1.2) (fun k hk q => ⟨⟨q.1.1, fun r => by rcases ho k r with r | r; exact q.1.2 r; exact Nat.lt_irrefl _ (Nat.lt_of_lt_of_le hk r)⟩, q.2⟩)
theorem KO2.of {cs : List Value} (hn : n = ks.length) (hc : PtCells w (fun k => (n0 ≤ k ∧ ¬ y.own p k) ∧ ¬ At A k) cs ks) (hA : ∀ k, At A k → n0 ≤ k) (hw : n0 ≤ w.heap.size) {A' : Option Addr} {c' : Nat} (ho : Own w' 30 5 A' (n + 1) c' (cs ++ zs5)) (u : Upd (At A) w w') (hat : ∀ k, At A' k → At A k ∨ k = w.heap.size) : KO2 n0 p w' y A' n c' ks := by
 refine ⟨hn, ⟨cs, ho, hc.mono u (fun k _ q => q.2) (fun k hk q => ⟨q.1, fun r => ?_⟩)⟩, fun k hk => ?_⟩
 ·
  rcases hat k r with r | r
  ·
   exact q.2 r
  ·
   omega
 ·
  rcases hat k hk with r | r
  ·
   exact hA k r
  ·
   omega
theorem KO2.fin (h : KO2 n0 p w y A j c ks) {q : Pt} {KA : Option Addr} {kc : Nat} (hq : PtK w (fun k => (n0 ≤ k ∧ ¬ y.own p k) ∧ ¬ At A k) q KA kc) {g : Nat} (hg : A = some ⟨g, 0, none⟩) {o : Nat} (ho : o = j * 5) :
  KO n0 p (set5o w g o (.int .i64 q.v) (.int .i64 q.op) (.int .i64 q.imm) (.int .i64 q.iv) (.slice KA q.kids.length kc)) y A (j + 1) c (ks ++ [q]) := by
 obtain ⟨h1, ⟨cs, h2, h3⟩, h4⟩ := h
 subst hg
 refine ⟨⟨by simp [h1], cs ++ pcells q KA kc, h2.set5o (by rw [ho, h1, h3.1]; omega) _ _ _ _ _, ?_⟩, h4⟩
 exact (h3.snoc hq).mono (set5o_upd _ _ _ _ _ _ _ _) (fun k _ r e => r.2 (At.some_.2 e)) (fun k _ r => r)
theorem KO2.some_ (h : KO2 n0 p w y A j c ks) : ∃ g, A = some ⟨g, 0, none⟩ ∧ (∀ o, o = j * 5 → ∀ i (hi : i < 5), w.cell? ⟨g, o + i, none⟩ = some (zs5[i]'hi)) ∧ (∀ i, w.frozen? ⟨g, i, none⟩ = false) := by
 obtain ⟨h1, ⟨cs, h2, h3⟩, h4⟩ := h
 obtain ⟨g, rfl⟩ := h2.some_ (by omega)
 exact ⟨g, rfl, fun o ho i hi => h2.cell5 (by rw [ho, h1, h3.1]; omega) hi, fun i => h2.frozen5 i⟩
end
theorem kidsF_snoc (g : PS → Except Er (Pt × PS)) : ∀ (n : Nat) (x : PS), kidsF g (n + 1) x = match kidsF g n x with
  | .error e => .error e
  | .ok (l, y) => match g y with | .error e => .error e | .ok (q, z) => .ok (l ++ [q], z)
 | 0, x => by
  simp only [kidsF]
  cases g x with
  | error e => rfl
  | ok v => rfl
 | n + 1, x => by
  rw [kidsF, kidsF]
  cases hg : g x with
  | error e => rfl
  | ok v =>
   obtain ⟨q, y⟩ := v
   dsimp only
   rw [kidsF_snoc g n y]
   cases kidsF g n y with
   | error e => rfl
   | ok v =>
    obtain ⟨l, z⟩ := v
    dsimp only
    cases g z with
    | error e => rfl
    | ok v => rfl
theorem kidsF_err {g : PS → Except Er (Pt × PS)} {n : Nat} {x : PS} {e : Er} (h : kidsF g n x = .error e) : ∀ {m : Nat}, n ≤ m → kidsF g m x = .error e := by
 intro m hm
 induction hm with
 | refl => exact h
 | step _ ih => rw [kidsF_snoc, ih]
theorem wrdF_err {α : Type} {T : List (Bs × Nat)} {fin : Nat} {f : Bs → PS → Option (α × PS)} {x : PS} {e : Er} (h : wrdF T fin f x = .error e) : e.1 ≠ 0 := by
 rw [wrd_eq] at h
 split at h
 ·
  split at h
  ·
   cases h
  ·
   injection h with h; subst h; show (2 : Int) ≠ 0; decide
 ·
  injection h with h; subst h; show (2 : Int) ≠ 0; decide
theorem kidsF_e0 {g : PS → Except Er (Pt × PS)} (hg : ∀ x e, g x = .error e → e.1 ≠ 0) : ∀ {n : Nat} {x : PS} {e : Er}, kidsF g n x = .error e → e.1 ≠ 0
 | 0, x, e, h => by simp only [kidsF] at h; cases h
 | n + 1, x, e, h => by
  rw [kidsF] at h
  split at h
  ·
   rename_i e' he; injection h with h; subst h; exact hg _ _ he
  ·
   split at h
   ·
    rename_i e' he; injection h with h; subst h; exact kidsF_e0 hg he
   ·
    cases h
theorem appF_err {T : List (Bs × Nat)} {fin : Nat} {left : Bool} {f : Nat} (hg : ∀ x e, termF T fin left f x = .error e → e.1 ≠ 0) {x : PS} {e : Er} (h : appF T fin left f x = .error e) : e.1 ≠ 0 := by
 unfold appF at h
 split at h
 ·
  rename_i e' he; injection h with h; subst h; exact wrdF_err he
 ·
  split at h
  ·
   rename_i e' he; injection h with h; subst h; exact kidsF_e0 hg he
  ·
   split at h
   ·
    rename_i e' he; injection h with h; subst h
    unfold expF at he
    split at he
    ·
     cases he
    ·
     injection he with he; subst he; show (2 : Int) ≠ 0; decide
   ·
    cases h
theorem termF_err {T : List (Bs × Nat)} {fin : Nat} {left : Bool} : ∀ (f : Nat) (x : PS) (e : Er), termF T fin left f x = .error e → e.1 ≠ 0
 | 0, x, e, h => by unfold termF at h; injection h with h; subst h; show (2 : Int) ≠ 0; decide
 | f + 1, x, e, h => by
  rw [termF_succ] at h
  split at h
  ·
   exact appF_err (termF_err f) h
  ·
   exact wrdF_err h
theorem operF_v {left : Bool} {s : Bs} {x y : PS} {q : Pt} (h : operF left s x = some (q, y)) : q.v = 0 := by
 unfold operF at h
 dsimp only at h
 split at h
 ·
  cases h
 ·
  split at h
  ·
   cases h
  ·
   split at h
   ·
    injection h with h; injection h with h _; subst h; rfl
   ·
    split at h
    ·
     injection h with h; injection h with h _; subst h; rfl
    ·
     split at h
     ·
      split at h
      ·
       injection h with h; injection h with h _; subst h; rfl
      ·
       cases h
     ·
      cases h
theorem wrdF_v {T : List (Bs × Nat)} {fin : Nat} {left : Bool} {x y : PS} {q : Pt} (h : wrdF T fin (operF left) x = .ok (q, y)) : q.v = 0 := by
 rw [wrd_eq] at h
 split at h
 ·
  split at h
  ·
   rename_i h2; injection h with h; injection h with h _; subst h; exact operF_v h2
  ·
   cases h
 ·
  cases h
theorem arF_le (op : Int) : (arF op).getD 0 ≤ 3 := by
 unfold arF
 split
 ·
  decide
 ·
  split
  ·
   decide
  ·
   split <;> decide
theorem sizeL_snoc (q : Pt) : ∀ ks : List Pt, Pt.sizeL (ks ++ [q]) = Pt.sizeL ks + q.size
 | [] => by simp [Pt.sizeL]
 | k :: ks => by simp only [List.cons_append, Pt.sizeL, sizeL_snoc q ks]; omega
theorem kids_step {g : PS → Except Er (Pt × PS)} {y0 y y' : St} {j : Nat} {ks : List Pt} {q : Pt} (hs : ResS y0 y (kidsF g j (psOf y0)) (fun v => v = ks)) (h0 : y.why = 0) (hg : ∀ x e, g x = .error e → e.1 ≠ 0)
  (hr : ResS y y' (g (psOf y)) (fun v => v = q ∧ q.size + y.i ≤ y'.i)) (hz : y.why = 0 → Pt.sizeL ks + y0.i ≤ y.i) :
  ResS y0 y' (kidsF g (j + 1) (psOf y0)) (fun v => v = ks ++ [q]) ∧ (y'.why = 0 → Pt.sizeL (ks ++ [q]) + y0.i ≤ y'.i) := by
 have h00 : y0.why = 0 := by
  by_cases h : y0.why = 0
  ·
   exact h
  ·
   exact absurd ((hs.2 h).1 ▸ h0) h
 have h1 := hs.1 h00
 have h2 := hr.1 h0
 have hz := hz h0
 cases hk : kidsF g j (psOf y0) with
 | error e => rw [hk] at h1; exact absurd (h1.1 ▸ h0) (kidsF_e0 hg hk)
 | ok v =>
  obtain ⟨l, ps⟩ := v
  rw [hk] at h1
  obtain ⟨_, rfl, rfl⟩ := h1
  refine ⟨⟨fun _ => ?_, fun h => absurd h00 h⟩, fun hy => ?_⟩
  ·
   rw [kidsF_snoc, hk]
   dsimp only
   cases ht : g (psOf y) with
   | error e => rw [ht] at h2; exact h2
   | ok v =>
    obtain ⟨q2, z⟩ := v
    rw [ht] at h2
    exact ⟨h2.1, h2.2.1, by rw [h2.2.2.1]⟩
  ·
   cases ht : g (psOf y) with
   | error e => rw [ht] at h2; exact absurd (h2.1 ▸ hy) (hg _ _ ht)
   | ok v =>
    rw [ht] at h2
    have h3 : q.size + y.i ≤ y'.i := h2.2.2.2
    rw [sizeL_snoc]; omega
theorem kids_exit {g : PS → Except Er (Pt × PS)} {y0 y : St} {j n : Nat} {ks : List Pt} (hs : ResS y0 y (kidsF g j (psOf y0)) (fun v => v = ks)) (hj : j ≤ n) (hd : (decide (j < n) && (y.why == 0)) = false) : ResS y0 y (kidsF g n (psOf y0)) (fun v => v = ks) := by
 by_cases hlt : j < n
 ·
  have h0 : y.why ≠ 0 := fun h => by rw [h, decide_eq_true hlt] at hd; cases hd
  refine ⟨fun h00 => ?_, hs.2⟩
  have h1 := hs.1 h00
  cases hk : kidsF g j (psOf y0) with
  | error e => rw [hk] at h1; rw [kidsF_err hk hj]; exact h1
  | ok v => rw [hk] at h1; exact absurd h1.1 h0
 ·
  obtain rfl : j = n := by omega
  exact hs
section
variable {L : List Tok} {T : List (Bs × Nat)} {fin : Nat} {y : St} {s : Bs}
theorem exp_own (p k : Nat) : (y.exp L s).own p k ↔ y.own p k := by
 unfold St.exp
 cases y.why == 0 && isT L y.i s
 ·
  exact fail_own _ _ _ _ _
 ·
  exact Iff.rfl
theorem exp_left : (y.exp L s).left = y.left := by
 unfold St.exp
 cases y.why == 0 && isT L y.i s
 ·
  exact fail_left _ _ _
 ·
  rfl
theorem exp_i : y.i ≤ (y.exp L s).i := by
 unfold St.exp
 cases y.why == 0 && isT L y.i s
 ·
  exact Nat.le_of_eq (fail_i _ _ _).symm
 ·
  exact Nat.le_succ _
theorem exp_good (hL : LOk L T fin) (hy : Good T y) : Good T (y.exp L s) := by
 unfold St.exp
 cases hb : y.why == 0 && isT L y.i s with
 | false => exact Good.fail hy.1 (by decide)
 | true =>
  simp only [Bool.and_eq_true, beq_iff_eq] at hb
  rw [hL.tk hy.1, decide_eq_true_eq] at hb
  have hi : y.i < T.length := by
   rcases Nat.lt_or_ge y.i T.length with q | q
   ·
    exact q
   ·
    have := hb.2; unfold tkF at this; rw [List.getElem?_eq_none q] at this; cases this
  exact ⟨hi, fun _ => by have := hy.2 hb.1; exact ⟨Nat.le_succ_of_le this.1, Nat.le_succ_of_le this.2⟩⟩
theorem exp_res (hL : LOk L T fin) (hy : Good T y) (h0 : y.why = 0) : match expF T fin s (psOf y) with | .ok u => (y.exp L s).why = 0 ∧ psOf (y.exp L s) = u | .error e => (y.exp L s).why = e.1 ∧ (y.exp L s).ea = e.2 := by
 unfold St.exp expF
 rw [hL.tk hy.1, h0, show (psOf y).i = y.i from rfl]
 by_cases ht : tkF T y.i = some s
 ·
  rw [if_pos ht, decide_eq_true ht]; exact ⟨rfl, rfl⟩
 ·
  rw [if_neg ht, decide_eq_false ht]
  dsimp only [Bool.and_false, cond_false, BEq.rfl]
  rw [fail_zero h0, hL.pos hy.1]
  exact ⟨rfl, rfl⟩
theorem exp_err (h0 : y.why ≠ 0) : y.exp L s = y := by
 unfold St.exp
 rw [show (y.why == 0) = false by simpa using h0]
 exact fail_why h0
theorem app_fin (hL : LOk L T fin) {left : Bool} {f n : Nat} {x y0 : St} {q : Pt} {ks : List Pt} (hx : x.why = 0) (hy : Good T y)
  (hr : ResS x y0 (wrdF T fin (operF left) (psOf x)) (fun v => v = q ∧ x.i + 1 ≤ y0.i)) (hn : n = (arF q.op).getD 0)
  (hs : ResS y0 y (kidsF (termF T fin left f) n (psOf y0)) (fun v => v = ks)) (hz : y.why = 0 → Pt.sizeL ks + y0.i ≤ y.i) :
  ResS x (y.exp L [41]) (appF T fin left f (psOf x)) (fun v => v = .mk q.v q.op q.imm q.iv ks ∧ (Pt.mk q.v q.op q.imm q.iv ks).size + x.i ≤ (y.exp L [41]).i) := by
 refine ⟨fun _ => ?_, fun h => absurd hx h⟩
 have h1 := hr.1 hx
 unfold appF
 cases hw : wrdF T fin (operF left) (psOf x) with
 | error e =>
  rw [hw] at h1
  have hne : y0.why ≠ 0 := by rw [h1.1]; exact wrdF_err hw
  have h2 := hs.2 hne
  rw [exp_err (by rw [h2.1]; exact hne)]
  exact ⟨h2.1.trans h1.1, h2.2.trans h1.2⟩
 | ok v =>
  obtain ⟨q', ps⟩ := v
  rw [hw] at h1
  obtain ⟨h00, rfl, h1q, h1i⟩ := h1
  subst h1q
  have h2 := hs.1 h00
  dsimp only
  rw [← hn]
  cases hk : kidsF (termF T fin left f) n (psOf y0) with
  | error e =>
   rw [hk] at h2
   have hne : y.why ≠ 0 := by rw [h2.1]; exact kidsF_e0 (termF_err f) hk
   rw [exp_err hne]
   exact h2
  | ok v =>
   obtain ⟨l, ps⟩ := v
   rw [hk] at h2
   obtain ⟨hy0, rfl, h2l⟩ := h2
   subst h2l
   dsimp only
   have h3 := exp_res (s := [41]) hL hy hy0
   cases he : expF T fin [41] (psOf y) with
   | error e => rw [he] at h3; exact h3
   | ok u =>
    rw [he] at h3
    refine ⟨h3.1, h3.2, by rw [wrdF_v hw], ?_⟩
    have h4 := hz hy0
    have h5 : y.i ≤ (y.exp L [41]).i := exp_i
    rw [Pt.size_eq]
    show 1 + Pt.sizeL l + x.i ≤ _
    omega
end
section
variable {w w' : World} {n0 n1 p : Nat} {y : St} {A A' : Option Addr} {q : Pt} {KA : Option Addr} {kc : Nat}
theorem PtK.past (hq : PtK w (fun k => n1 ≤ k ∧ ¬ y.own p k) q KA kc) (hA : ∀ k, At A k → k < n1) (hn : n0 ≤ n1) (u : Upd (At A) w w') (hat : ∀ k, At A' k → At A k ∨ k = w.heap.size) : PtK w' (fun k => (n0 ≤ k ∧ ¬ y.own p k) ∧ ¬ At A' k) q KA kc := by
 have h1 : PtK w (fun k => (n1 ≤ k ∧ ¬ y.own p k) ∧ k < w.heap.size) q KA kc := PtK.mono (fun k hk h => ⟨h, hk⟩) _ _ _ hq
 refine PtK.mono (fun k _ h => ⟨⟨Nat.le_trans hn h.1.1, h.1.2⟩, fun r => ?_⟩) _ _ _ (PtK.upd u (fun k _ h r => Nat.lt_irrefl _ (Nat.lt_of_lt_of_le (hA k r) h.1.1)) _ _ _ h1)
 rcases hat k r with r | r
 ·
  exact Nat.lt_irrefl _ (Nat.lt_of_lt_of_le (hA k r) h.1.1)
 ·
  have := h.2; omega
end
theorem set5o_eq (w : World) (g o : Nat) (a b c d e : Value) : ((((w.setCell ⟨g, o, none⟩ a).setCell ⟨g, o + 1, none⟩ b).setCell ⟨g, o + 2, none⟩ c).setCell ⟨g, o + 3, none⟩ d).setCell ⟨g, o + 4, none⟩ e = set5o w g o a b c d e := rfl
section
variable {n0 p m : Nat} {w w' : World} {y : St} {A : Option Addr} {n j c : Nat} {ks : List Pt}
theorem KO.near (h : KO n0 p w y A n c ks) (u : Upd (· = m) w w') (hm : m < n0) : KO n0 p w' y A n c ks :=
 ⟨h.1.upd u (fun k q e => by have := h.2 k q; omega) (fun k _ q e => by have := q.1; omega), h.2⟩
theorem KO2.near (h : KO2 n0 p w y A j c ks) (u : Upd (· = m) w w') (hm : m < n0) : KO2 n0 p w' y A j c ks := by
 obtain ⟨h1, ⟨cs, h2, h3⟩, h4⟩ := h
 exact ⟨h1, ⟨cs, h2.upd u (fun k q e => by have := h4 k q; omega), h3.mono u (fun k _ q e => by have := q.1.1; omega) (fun _ _ q => q)⟩, h4⟩
end
theorem AppS.kids {w0 w : World} {p : Nat} {A : Option Addr} {c : Nat} {L : List Tok} {x y : St} {a b c' d e : Value} (h : AppS w0 w p A c L x y #[a, b, c', d, e]) (v : Value) : ∃ w9, w.setCell ⟨w0.heap.size + 2, 4, none⟩ v = w9 ∧ Upd (· = w0.heap.size + 2) w w9 ∧ AppS w0 w9 p A c L x y #[a, b, c', d, v] :=
 ⟨_, rfl, updCell _ _ _ _, h.setPat (updCell _ _ _ _) (by simpa using h.pat.set_ 4 v)⟩
end Go.Proofs.Ytblkgjdhaibhgaa
namespace Go.Proofs.Ytblkgjdhaibhgaa
open Go.RowKit
theorem goodT_get : ∀ (L : List Tok) (i : Nat) (h : i < (goodT L).length), L[i]? = some ⟨(goodT L)[i].1, (goodT L)[i].2, false⟩
 | [], i, h => by simp [goodT] at h
 | t :: L, i, h => by
  obtain ⟨s, q, b⟩ := t
  cases b with
  | true => simp [goodT] at h
  | false =>
   cases i with
   | zero => rfl
   | succ i => exact goodT_get L i (by simpa [goodT] using h)
theorem goodT_bad : ∀ (L : List Tok), (∃ t ∈ L, t.bad = true) → (goodT L).length < L.length ∧ ∃ s, L[(goodT L).length]? = some ⟨s, finT L, true⟩
 | [], h => by obtain ⟨_, h, _⟩ := h; cases h
 | t :: L, h => by
  obtain ⟨s, q, b⟩ := t
  cases b with
  | true => exact ⟨Nat.succ_pos _, s, rfl⟩
  | false =>
   have h2 : ∃ t ∈ L, t.bad = true := by
    obtain ⟨u, hu, hb⟩ := h
    rcases List.mem_cons.1 hu with rfl | hu
    ·
     cases hb
    ·
     exact ⟨u, hu, hb⟩
   obtain ⟨h3, z, h4⟩ := goodT_bad L h2
   exact ⟨Nat.succ_lt_succ h3, z, h4⟩
theorem goodT_mem : ∀ {L : List Tok} {x : Bs × Nat}, x ∈ goodT L → (⟨x.1, x.2, false⟩ : Tok) ∈ L
 | [], x, h => by simp [goodT] at h
 | t :: L, x, h => by
  obtain ⟨s, q, b⟩ := t
  cases b with
  | true => simp [goodT] at h
  | false =>
   rcases List.mem_cons.1 (show x ∈ (s, q) :: goodT L from h) with rfl | h
   ·
    exact List.mem_cons_self
   ·
    exact List.mem_cons_of_mem _ (goodT_mem h)
theorem tokL_end : ∀ (f : Nat) (s : Bs) (o : Nat), ∃ t ∈ tokL f s o, t.bad = true
 | 0, s, o => ⟨_, List.mem_singleton.2 rfl, rfl⟩
 | f + 1, [], o => ⟨_, List.mem_singleton.2 rfl, rfl⟩
 | f + 1, c :: r, o => by
  unfold tokL
  split
  ·
   exact tokL_end f _ _
  ·
   split
   ·
    exact tokL_end f _ _
   ·
    split
    ·
     obtain ⟨t, h1, h2⟩ := tokL_end f r (o + 1)
     exact ⟨t, List.mem_cons_of_mem _ h1, h2⟩
    ·
     obtain ⟨t, h1, h2⟩ := tokL_end f ((c :: r).drop (wlen (c :: r))) (o + wlen (c :: r))
     exact ⟨t, List.mem_cons_of_mem _ h1, h2⟩
theorem tokL_s : ∀ (f : Nat) (s : Bs) (o : Nat), ∀ t ∈ tokL f s o, t.bad = false → t.s ≠ [] ∧ t.s.length ≤ s.length
 | 0, s, o, t, h, hb => by rw [tokL, List.mem_singleton] at h; subst h; cases hb
 | f + 1, [], o, t, h, hb => by rw [tokL, List.mem_singleton] at h; subst h; cases hb
 | f + 1, c :: r, o, t, h, hb => by
  unfold tokL at h
  split at h
  ·
   have := tokL_s f _ _ t h hb
   exact ⟨this.1, Nat.le_succ_of_le this.2⟩
  ·
   rename_i h1
   split at h
   ·
    have := tokL_s f _ _ t h hb
    rw [List.length_drop] at this
    exact ⟨this.1, by omega⟩
   ·
    rename_i h2
    split at h
    ·
     rcases List.mem_cons.1 h with rfl | h
     ·
      exact ⟨by simp, by simp⟩
     ·
      have := tokL_s f _ _ t h hb
      exact ⟨this.1, Nat.le_succ_of_le this.2⟩
    ·
     rename_i h3
     rcases List.mem_cons.1 h with rfl | h
     ·
      have hw : 1 ≤ wlen (c :: r) := by
       unfold wlen
       rw [if_pos]
       ·
        omega
       ·
        simp only [Bool.or_eq_true, decide_eq_true_eq, not_or] at h3
        simp only [wordCh, Bool.and_eq_true, decide_eq_true_eq, Bool.not_eq_true']
        have h31 : isPn c = false := by simpa using h3.1.1
        have h22 : isCm (c :: r) = false := by simpa using h2
        exact ⟨⟨by omega, h31⟩, h22⟩
      refine ⟨fun q => ?_, ?_⟩
      ·
       have q2 := congrArg List.length q
       rw [List.length_take] at q2
       simp only [List.length_nil, List.length_cons] at q2
       omega
      ·
       show ((c :: r).take _).length ≤ _
       rw [List.length_take]
       omega
     ·
      have := tokL_s f _ _ t h hb
      rw [List.length_drop] at this
      exact ⟨this.1, by omega⟩
theorem lok_toks {s : Bs} (hs : s.length ≤ 20000) (hl : (toksF s).length ≤ s.length + 1) : LOk (toksF s) (goodT (toksF s)) (finT (toksF s)) := by
 obtain ⟨h1, h2⟩ := goodT_bad (toksF s) (tokL_end _ _ _)
 exact ⟨h1, fun i h => goodT_get _ i h, h2, fun t ht => (tokL_s _ _ _ _ (goodT_mem ht) rfl).1, fun t ht => by have := (tokL_s _ _ _ _ (goodT_mem ht) rfl).2; show t.1.length ≤ 20000; have h3 : t.1.length ≤ s.length := this; omega, by omega⟩
section
variable {T : List (Bs × Nat)} {fin : Nat}
theorem wrdF_i {α : Type} {g : Bs → PS → Option (α × PS)} {x y : PS} {a : α} (h : wrdF T fin g x = .ok (a, y)) : y.i = x.i + 1 := by
 rw [wrd_eq] at h
 split at h
 ·
  split at h
  ·
   injection h with h; injection h with _ h; subst h; rfl
  ·
   cases h
 ·
  cases h
theorem expF_i {s : Bs} {x y : PS} (h : expF T fin s x = .ok y) : y.i = x.i + 1 := by
 unfold expF at h
 split at h
 ·
  injection h with h; subst h; rfl
 ·
  cases h
theorem kidsF_i {g : PS → Except Er (Pt × PS)} (hg : ∀ x y q, g x = .ok (q, y) → x.i ≤ y.i) : ∀ {n : Nat} {x y : PS} {l : List Pt}, kidsF g n x = .ok (l, y) → x.i ≤ y.i
 | 0, x, y, l, h => by simp only [kidsF] at h; injection h with h; injection h with _ h; subst h; exact Nat.le_refl _
 | n + 1, x, y, l, h => by
  rw [kidsF] at h
  split at h
  ·
   cases h
  ·
   rename_i q z hq
   split at h
   ·
    cases h
   ·
    rename_i l2 z2 hk
    injection h with h; injection h with _ h; subst h
    exact Nat.le_trans (hg _ _ _ hq) (kidsF_i hg hk)
theorem termF_i {left : Bool} : ∀ (f : Nat) (x y : PS) (q : Pt), termF T fin left f x = .ok (q, y) → x.i ≤ y.i
 | 0, x, y, q, h => by unfold termF at h; cases h
 | f + 1, x, y, q, h => by
  rw [termF_succ] at h
  split at h
  ·
   unfold appF at h
   split at h
   ·
    cases h
   ·
    rename_i q1 y1 h1
    split at h
    ·
     cases h
    ·
     rename_i l z h2
     split at h
     ·
      cases h
     ·
      rename_i u h3
      injection h with h; injection h with _ h; subst h
      have e1 := wrdF_i h1
      have e2 := kidsF_i (termF_i f) h2
      have e3 := expF_i h3
      have e1 : y1.i = x.i + 1 + 1 := e1
      omega
  ·
   have := wrdF_i h
   omega
theorem pcondF_i {x y : PS} {c : Cd} (h : pcondF T fin x = .ok (c, y)) : x.i ≤ y.i := by
 unfold pcondF at h
 split at h
 ·
  cases h
 ·
  rename_i k y1 h1
  have e1 := wrdF_i h1
  split at h
  ·
   cases h
  ·
   rename_i a z h2
   have e2 : z.i = y1.i + 1 := by
    split at h2
    ·
     exact wrdF_i h2
    ·
     exact wrdF_i h2
   split at h
   ·
    injection h with h; injection h with _ h; subst h; omega
   ·
    split at h
    ·
     split at h
     ·
      cases h
     ·
      rename_i n u h3
      have e3 := wrdF_i h3
      injection h with h; injection h with _ h; subst h; omega
    ·
     split at h
     ·
      split at h
      ·
       cases h
      ·
       rename_i n u h3
       have e3 := wrdF_i h3
       injection h with h; injection h with _ h; subst h; omega
     ·
      split at h
      ·
       cases h
      ·
       rename_i n u h3
       have e3 := wrdF_i h3
       injection h with h; injection h with _ h; subst h; omega
theorem condsF_i : ∀ (f : Nat) (x y : PS) (l : List Cd), condsF T fin f x = .ok (l, y) → x.i ≤ y.i
 | 0, x, y, l, h => by unfold condsF at h; injection h with h; injection h with _ h; subst h; exact Nat.le_refl _
 | f + 1, x, y, l, h => by
  unfold condsF at h
  split at h
  ·
   split at h
   ·
    cases h
   ·
    rename_i c y1 h1
    have e1 : x.i + 1 ≤ y1.i := pcondF_i h1
    split at h
    ·
     cases h
    ·
     rename_i l2 z h2
     have e2 := condsF_i f _ _ _ h2
     injection h with h; injection h with _ h; subst h; omega
  ·
   injection h with h; injection h with _ h; subst h; exact Nat.le_refl _
theorem ifF_i {f : Nat} {x y : PS} {l : List Cd} (h : ifF T fin f x = .ok (l, y)) : x.i ≤ y.i := by
 unfold ifF at h
 split at h
 ·
  split at h
  ·
   cases h
  ·
   rename_i c y1 h1
   have e1 : x.i + 1 ≤ y1.i := pcondF_i h1
   split at h
   ·
    cases h
   ·
    rename_i l2 z h2
    have e2 := condsF_i f _ _ _ h2
    injection h with h; injection h with _ h; subst h; omega
 ·
  injection h with h; injection h with _ h; subst h; exact Nat.le_refl _
theorem ruleF_i {x y : PS} {r : Rl} (h : ruleF T fin x = .ok (r, y)) : x.i + 1 ≤ y.i := by
 unfold ruleF at h
 split at h
 ·
  cases h
 ·
  rename_i s x1 h1
  have e1 : x1.i = x.i + 1 := wrdF_i (x := { x with vs := [], ms := [] }) h1
  split at h
  ·
   cases h
  ·
   rename_i x2 h2
   have e2 := expF_i h2
   split at h
   ·
    cases h
   ·
    rename_i l x3 h3
    have e3 := termF_i _ _ _ _ h3
    split at h
    ·
     cases h
    ·
     rename_i x4 h4
     have e4 := expF_i h4
     split at h
     ·
      cases h
     ·
      rename_i r5 x5 h5
      have e5 := termF_i _ _ _ _ h5
      split at h
      ·
       cases h
      ·
       rename_i cs x6 h6
       have e6 := ifF_i h6
       split at h
       ·
        cases h
       ·
        rename_i x7 h7
        have e7 := expF_i h7
        injection h with h; injection h with _ h; subst h; omega
theorem itemF_i {ax : Bs → Option Rl} {x y : PS} {v : Option Rl × Nat} (h : itemF T fin ax x = .ok (v, y)) : x.i + 1 ≤ y.i := by
 unfold itemF at h
 split at h
 ·
  split at h
  ·
   cases h
  ·
   rename_i s y1 h1
   have e1 : y1.i = x.i + 1 + 1 := wrdF_i (x := { x with i := x.i + 1 }) h1
   split at h
   ·
    cases h
   ·
    rename_i z h2
    have e2 := expF_i h2
    injection h with h; injection h with _ h; subst h; omega
 ·
  split at h
  ·
   cases h
  ·
   rename_i y1 h1
   have e1 := expF_i h1
   split at h
   ·
    cases h
   ·
    rename_i r z h2
    have e2 := ruleF_i h2
    injection h with h; injection h with _ h; subst h; omega
theorem expF_err {s : Bs} {x : PS} {e : Er} (h : expF T fin s x = .error e) : e.1 ≠ 0 := by
 unfold expF at h
 split at h
 ·
  cases h
 ·
  injection h with h; subst h; show (2 : Int) ≠ 0; decide
end
end Go.Proofs.Ytblkgjdhaibhgaa
namespace Go.Proofs.Ytblkgjdhaibhgaa
open Go.RowKit
def Lex (s : Bs) (ws : List Bs) : Prop :=
 ∀ (t : Bs) (o f : Nat), (s ++ t).length < f → ∃ T : List Tok, tokL f (s ++ t) o = T ++ tokL f t (o + s.length) ∧ T.map (·.s) = ws ∧ (∀ x ∈ T, x.bad = false ∧ o ≤ x.pos ∧ x.pos < o + s.length) ∧ T.length ≤ s.length
theorem Lex.nil : Lex [] [] := fun t o f _ => ⟨[], by simp, rfl, fun x h => by simp at h, Nat.le_refl _⟩
theorem Lex.app {s1 s2 : Bs} {w1 w2 : List Bs} (h1 : Lex s1 w1) (h2 : Lex s2 w2) : Lex (s1 ++ s2) (w1 ++ w2) := by
 intro t o f hf
 obtain ⟨T1, e1, m1, p1, l1⟩ := h1 (s2 ++ t) o f (by rw [← List.append_assoc]; exact hf)
 obtain ⟨T2, e2, m2, p2, l2⟩ := h2 t (o + s1.length) f (by simp only [List.length_append] at hf ⊢; omega)
 refine ⟨T1 ++ T2, ?_, by rw [List.map_append, m1, m2], fun x hx => ?_, by rw [List.length_append, List.length_append]; omega⟩
 ·
  rw [List.append_assoc, e1, e2, List.append_assoc, List.length_append, Nat.add_assoc]
 ·
  rw [List.length_append]
  rcases List.mem_append.1 hx with hx | hx
  ·
   have := p1 x hx; exact ⟨this.1, by omega, by omega⟩
  ·
   have := p2 x hx; exact ⟨this.1, by omega, by omega⟩
theorem tokL_sp (f : Nat) {c : UInt8} {t : Bs} {o : Nat} (h : isSp c = true) : tokL (f + 1) (c :: t) o = tokL f t (o + 1) := by rw [tokL, if_pos h]
theorem Lex.sp {c : UInt8} (h : isSp c = true) : Lex [c] [] := by
 intro t o f hf
 match f, hf with
 | f + 1, hf =>
  refine ⟨[], ?_, rfl, fun x hx => by simp at hx, Nat.zero_le _⟩
  show tokL (f + 1) (c :: t) o = [] ++ tokL (f + 1) t (o + 1)
  rw [tokL_sp f h, List.nil_append]
  exact tokL_fuel _ _ _ _ (by simp at hf; omega) (by simp at hf; omega)
theorem pn_sp {c : UInt8} (h : isPn c = true) : isSp c = false ∧ c.toNat ≠ 47 := by
 simp only [isPn, decide_eq_true_eq] at h
 refine ⟨?_, by omega⟩
 simp only [isSp, decide_eq_false_iff_not]
 omega
theorem isCm_ne {c : UInt8} {t : Bs} (h : c.toNat ≠ 47) : isCm (c :: t) = false := by
 cases t with
 | nil => rfl
 | cons d t => simp [isCm, h]
theorem Lex.pn {c : UInt8} (h : isPn c = true) : Lex [c] [[c]] := by
 intro t o f hf
 match f, hf with
 | f + 1, hf =>
  obtain ⟨h1, h2⟩ := pn_sp h
  refine ⟨[⟨[c], o, false⟩], ?_, rfl, fun x hx => ?_, Nat.le_refl _⟩
  ·
   show tokL (f + 1) (c :: t) o = _
   rw [tokL, if_neg (by rw [h1]; decide), if_neg (by rw [isCm_ne h2]; decide), if_pos (by simp [h])]
   rw [show (!isPn c) = false by rw [h]; rfl]
   show _ :: tokL f t (o + 1) = _ :: tokL (f + 1) t (o + 1)
   rw [tokL_fuel f (f + 1) _ _ (by simp at hf; omega) (by simp at hf; omega)]
  ·
   rw [List.mem_singleton] at hx; subst hx; exact ⟨rfl, Nat.le_refl _, by simp⟩
def wOk (w : Bs) : Bool := w.all fun c => wordCh c && decide (c.toNat ≠ 47)
theorem wlen_ok : ∀ {w : Bs} {d : UInt8} {t : Bs}, wOk w = true → wordCh d = false → wlen (w ++ d :: t) = w.length
 | [], d, t, _, hd => by simp [wlen, hd]
 | c :: w, d, t, h, hd => by
  simp only [wOk, List.all_cons, Bool.and_eq_true, decide_eq_true_eq] at h
  obtain ⟨⟨h1, h2⟩, h3⟩ := h
  have h4 : wOk w = true := by simpa [wOk] using h3
  rw [List.cons_append, wlen, if_pos (by rw [h1, isCm_ne h2]; rfl), wlen_ok h4 hd]
  rfl
theorem wordCh_parts {c : UInt8} (h : wordCh c = true) : isPn c = false ∧ isSp c = false ∧ 33 ≤ c.toNat ∧ c.toNat ≤ 126 := by
 simp only [wordCh, Bool.and_eq_true, decide_eq_true_eq, Bool.not_eq_true'] at h
 refine ⟨h.2, ?_, h.1.1, h.1.2⟩
 simp only [isSp, decide_eq_false_iff_not]
 omega
theorem delim_word {d : UInt8} (h : isSp d = true ∨ isPn d = true) : wordCh d = false := by
 rcases h with h | h
 ·
  simp only [isSp, decide_eq_true_eq] at h
  simp only [wordCh, Bool.and_eq_false_iff, decide_eq_false_iff_not]
  left; omega
 ·
  simp [wordCh, h]
theorem Lex.word {w : Bs} {d : UInt8} {ws : List Bs} (h : wOk w = true) (hn : w ≠ []) (hd : isSp d = true ∨ isPn d = true) {s : Bs} (hr : Lex (d :: s) ws) : Lex (w ++ d :: s) (w :: ws) := by
 intro t o f hf
 have hl := wlen_ok (t := s ++ t) h (delim_word hd)
 obtain ⟨T, e, m, p, l⟩ := hr t (o + w.length) f (by simp only [List.length_append, List.length_cons] at hf ⊢; omega)
 match w, f, hn, hf, hl with
 | c :: w', f + 1, _, hf, hl =>
  have hc : wordCh c = true ∧ c.toNat ≠ 47 := by
   simp only [wOk, List.all_cons, Bool.and_eq_true, decide_eq_true_eq] at h
   exact h.1
  obtain ⟨p1, p2, p3, p4⟩ := wordCh_parts hc.1
  refine ⟨⟨c :: w', o, false⟩ :: T, ?_, by rw [List.map_cons, m], fun x hx => ?_, by simp only [List.length_append, List.length_cons] at l ⊢; omega⟩
  ·
   have e0 : (c :: w') ++ d :: s ++ t = c :: (w' ++ d :: (s ++ t)) := by simp
   have e1 : c :: (w' ++ d :: (s ++ t)) = (c :: w') ++ (d :: (s ++ t)) := rfl
   have ht : (c :: (w' ++ d :: (s ++ t))).take (wlen (c :: (w' ++ d :: (s ++ t)))) = c :: w' := by rw [e1, hl, List.take_left']; rfl
   have hdp : (c :: (w' ++ d :: (s ++ t))).drop (wlen (c :: (w' ++ d :: (s ++ t)))) = d :: (s ++ t) := by rw [e1, hl, List.drop_left']; rfl
   rw [e0, tokL, if_neg (by rw [p2]; decide), if_neg (by rw [isCm_ne hc.2]; decide), if_neg (by simp [p1]; omega), ht, hdp]
   have e2 : wlen (c :: (w' ++ d :: (s ++ t))) = (c :: w').length := hl
   rw [e2, List.cons_append]
   congr 1
   rw [tokL_fuel f (f + 1) _ _ (by simp at hf ⊢; omega) (by simp at hf ⊢; omega)]
   have e3 : d :: (s ++ t) = (d :: s) ++ t := rfl
   rw [e3, e]
   congr 2
   simp only [List.length_append, List.length_cons]
   omega
  ·
   rcases List.mem_cons.1 hx with rfl | hx
   ·
    exact ⟨rfl, Nat.le_refl _, by simp⟩
   ·
    have := p x hx
    simp only [List.length_append, List.length_cons] at this ⊢
    exact ⟨this.1, by omega, by omega⟩
theorem Lex.all {s : Bs} {ws : List Bs} (h : Lex s ws) : ∃ T : List (Bs × Nat), goodT (toksF s) = T ∧ T.map (·.1) = ws ∧ finT (toksF s) = s.length ∧ ∀ x ∈ T, x.2 < s.length := by
 obtain ⟨T, e, m, p, l⟩ := h [] 0 (s.length + 1) (by simp)
 rw [List.append_nil] at e
 have e2 : toksF s = T ++ [⟨[], s.length, true⟩] := by
  unfold toksF
  rw [e, Nat.zero_add]
  cases s.length <;> rfl
 have key : ∀ (T : List Tok), (∀ x ∈ T, x.bad = false) → goodT (T ++ [⟨[], s.length, true⟩]) = T.map (fun x => (x.s, x.pos)) ∧ finT (T ++ [⟨[], s.length, true⟩]) = s.length := by
  intro T
  induction T with
  | nil => intro _; exact ⟨rfl, rfl⟩
  | cons x T ih =>
   intro hx
   obtain ⟨h1, h2⟩ := ih (fun y hy => hx y (List.mem_cons_of_mem _ hy))
   have hb := hx x List.mem_cons_self
   constructor
   ·
    rw [List.cons_append, goodT, if_neg (by rw [hb]; decide), h1]; rfl
   ·
    rw [List.cons_append, finT, if_neg (by rw [hb]; decide), h2]
 obtain ⟨k1, k2⟩ := key T (fun x hx => (p x hx).1)
 rw [e2]
 refine ⟨_, k1, by rw [← m, List.map_map]; rfl, k2, fun x hx => ?_⟩
 obtain ⟨y, hy, rfl⟩ := List.mem_map.1 hx
 have := (p y hy).2.2
 simpa using this
theorem Lex.len {s : Bs} {ws : List Bs} (h : Lex s ws) : ws.length ≤ s.length := by
 obtain ⟨T, e, m, p, l⟩ := h [] 0 (s.length + 1) (by simp)
 rw [← m, List.length_map]
 exact l
end Go.Proofs.Ytblkgjdhaibhgaa
namespace Go.Proofs.Ytblkgjdhaibhgaa
open Go.RowKit
theorem hcf78 : ∀ (args : Array Value) (w : World), (callFunc 78 args).run Try.prog w = .ok (.enter 78 args) w := fun args w => by
 simp [callFunc, Try.func78, Try.f78]
theorem oper_len {left : Bool} {s : Bs} {x ps : PS} {q : Pt} (h : operF left s x = some (q, ps)) : ps.vs.length ≤ x.vs.length + 1 ∧ ps.ms.length ≤ x.ms.length + 1 := by
 unfold operF at h
 dsimp only at h
 split at h
 ·
  cases h
 ·
  split at h
  ·
   cases h
  ·
   split at h
   ·
    injection h with h; injection h with _ h; subst h; exact ⟨Nat.le_succ _, Nat.le_succ _⟩
   ·
    split at h
    ·
     injection h with h; injection h with _ h; subst h; exact ⟨Nat.le_succ _, Nat.le_succ _⟩
    ·
     split at h
     ·
      split at h
      ·
       injection h with h; injection h with _ h; subst h; exact ⟨Nat.le_succ _, lookF_len _ _ _⟩
      ·
       cases h
     ·
      cases h
set_option maxRecDepth 100000 in
set_option maxHeartbeats 4000000 in
theorem rApplication_c {L : List Tok} {T : List (Bs × Nat)} {fin : Nat} (hL : LOk L T fin) (left : Bool) (f : Nat)
  (HT : Hid (∀ {w : World} {p : Nat} {A : Option Addr} {c : Nat} {x : St}, RdS w p A c L x → Good T x → x.left = left → x.why = 0 → T.length < x.i + f → Calls Try.prog 42 #[.pointer (some ⟨p, 0, none⟩)] w (TermP T w p A c L x (termF T fin left f (psOf x)))))
  {w : World} {p : Nat} {A : Option Addr} {c : Nat} {x : St} (h : RdS w p A c L x) (hx : Good T x) (hl : x.left = left) (h0 : x.why = 0) (hf : T.length < x.i + f) :
  Calls Try.prog 63 #[.pointer (some ⟨p, 0, none⟩)] w (TermP T w p A c L x (appF T fin left f (psOf x))) := by
 have hiL : x.i < L.length := by have := hL.lt; have := hx.1; omega
 have hLl := hL.len
 obtain ⟨W1, HW1⟩ := nm (w.alloc (.cells #[.pointer (some ⟨p, 0, none⟩)] 53))
 have u1 : Upd Non w W1 := by rw [← HW1.out]; exact Upd.refl.alloc _
 have b1 : Blk W1 w.heap.size 53 #[.pointer (some ⟨p, 0, none⟩)] := by rw [← HW1.out]; exact Blk.new _ _ _
 have s1 : W1.heap.size = w.heap.size + 1 := by rw [← HW1.out]; simp
 obtain ⟨W2, HW2⟩ := nm (W1.alloc (.cells #[.int .i64 0, .int .i64 0, .int .i64 0, .int .i64 0, .slice none 0 0] 30))
 have u2 : Upd Non W1 W2 := by rw [← HW2.out]; exact Upd.refl.alloc _
 have b2 : Blk W2 (w.heap.size + 1) 30 (p0 (.mk 0 0 0 0 [])) := by rw [← HW2.out, ← s1]; exact Blk.new _ _ _
 have s2 : W2.heap.size = w.heap.size + 2 := by rw [← HW2.out]; simp [s1]
 obtain ⟨W3, HW3⟩ := nm (W2.alloc (.cells #[.int .i64 0, .int .i64 0, .int .i64 0, .int .i64 0, .slice none 0 0] 30))
 have u3 : Upd Non W2 W3 := by rw [← HW3.out]; exact Upd.refl.alloc _
 have b3 : Blk W3 (w.heap.size + 2) 30 (p0 (.mk 0 0 0 0 [])) := by rw [← HW3.out, ← s2]; exact Blk.new _ _ _
 have s3 : W3.heap.size = w.heap.size + 3 := by rw [← HW3.out]; simp [s2]
 have e1 := HW1.out
 have e2 := HW2.out
 have e3 := HW3.out
 have U3 : Upd Non w W3 := (u1.then_non u2).then_non u3
 have b1 := b1.upd (u2.then_non u3) (fun f => f)
 have b2 := b2.upd u3 (fun f => f)
 have h3 := h.non U3
 have hown : ∀ j, x.own p j → j < w.heap.size := fun j hj => h.lt hj
 have hpw : p < w.heap.size := h.blk.lt
 have hwn : x.vs.length ≤ 100000 ∧ x.ms.length ≤ 100000 := by have := hx.2 h0; have := hx.1; have := hL.lt; omega
 have d0 := b1.cell 0
 have H3 := Lib.hid h3
 have HX := Lib.hid hx
 have HX3 := Lib.hid b1
 have HR3 := Lib.hid b2
 have HG3 := Lib.hid b3
 have HU3 := Lib.hid U3
 have CW := Lib.hid (rWord_c H3.out hiL hLl (hL.ne' hiL HX.out.1) 78 #[.pointer (some ⟨w.heap.size, 0, none⟩), .pointer (some ⟨w.heap.size + 2, 0, none⟩)] hcf78
  (fun bb x2 w1 w2 => ∃ q, q.kids = [] ∧ Blk w2 (w.heap.size + 2) 30 (p0 q) ∧ (∀ k, x2.own p k → x.own p k ∨ w1.heap.size ≤ k) ∧ x2.left = x.left ∧ Upd (fun k => x.own p k ∨ k = w.heap.size + 2) w1 w2 ∧ (bb = true → ∃ ps, operF left L[x.i].s (psOf x) = some (q, ps) ∧ ps.i = x.i ∧ x2.vs = ps.vs ∧ x2.ms = ps.ms) ∧ (bb = false → operF left L[x.i].s (psOf x) = none))
  (fun hok w1 u01 => by
   rw [hL.word HX.out.1, Bool.and_eq_true, beq_iff_eq] at hok
   obtain ⟨sw, hsw⟩ := Option.isSome_iff_exists.1 hok.2
   obtain ⟨f1, f2, f3, f4, f5, f6, f7⟩ := hL.at_ hiL hsw
   refine (rApplication1_c (H3.out.non u01) hwn.2 L[x.i].s (by rw [f1]; omega) (.mk 0 0 0 0 []) (HG3.out.upd u01 (fun f => f)) (HX3.out.upd u01 (fun f => f)) (fun q => by have := hown _ q; omega) (by omega)).mono ?_
   rintro e w2 ⟨q, b, y, rfl, k1, k2, k3, k4, k5, k6, k7⟩
   rw [hl] at k6 k7
   exact ⟨b, y, rfl, k3, k4.i, k4.why.trans hok.1, k5.mono (fun k _ r => by rcases r with r | r; have := hown _ r; omega; omega), k4.own, q, k1, k2, k4.own, k4.left, k5, k6, k7⟩))
 clear h h3 b1 b2 b3 u1 u2 u3 U3 HW1 HW2 HW3 hx
 go_enter Try.func63, Try.ntmps63
 go_wp2_with fail
 refine CW.out.mono ?_
 rintro e w5 hwd
 have HWD := Lib.hid hwd
 clear hwd CW
 obtain ⟨r0, Hr0⟩ := nm (wrdF T fin (operF left) (psOf x))
 obtain ⟨q0, y0, ev, hq5, hqk, hy5, hgy, hyl, hyo, hu5, hrs⟩ : ∃ (q : Pt) (y : St), (∃ v, e = .returned v) ∧ Blk w5 (w.heap.size + 2) 30 (p0 q) ∧ q.kids = [] ∧ RdS w5 p A c L y ∧ Good T y ∧ y.left = x.left ∧ (∀ k, y.own p k → x.own p k ∨ W3.heap.size ≤ k) ∧ Upd (fun k => x.own p k ∨ k = w.heap.size + 2 ∨ k = W3.heap.size) W3 w5 ∧ ResS x y r0 (fun v => v = q ∧ x.i + 1 ≤ y.i) := by
  have hpos := hL.pos HX.out.1
  rcases HWD.out with ⟨hok, bb, x2, w1, w2, u01, ⟨q, hqk, hqb, hqo, hql, hqu, ht, hff⟩, hi2, hw2, _, u2, rfl, hR⟩ | ⟨hok, rfl, hR, hu⟩
  ·
   rw [hL.word HX.out.1, Bool.and_eq_true, beq_iff_eq] at hok
   obtain ⟨sw, hsw⟩ := Option.isSome_iff_exists.1 hok.2
   obtain ⟨f1, f2, f3, f4, f5, f6, f7⟩ := hL.at_ hiL hsw
   rw [f1] at ht hff
   have hwr := Hr0.out.symm
   rw [wrd_eq, show (psOf x).i = x.i from rfl, hsw] at hwr
   dsimp only at hwr
   have hsz := u01.size
   have hqb5 : Blk w5 (w.heap.size + 2) 30 (p0 q) := hqb.upd u2 (by omega)
   have hu5 : Upd (fun k => x.own p k ∨ k = w.heap.size + 2 ∨ k = W3.heap.size) W3 w5 := (u01.mono (fun _ _ f => f.elim)).trans ((hqu.mono (T := fun k => x.own p k ∨ k = w.heap.size + 2 ∨ k = W3.heap.size) (fun _ _ h => by rcases h with h | h; exact .inl h; exact .inr (.inl h))).trans u2 (fun _ _ h => by rcases h with h | h; exact .inl (.inl h); exact .inr (.inr h))) (fun _ _ h => h)
   have ho5 : ∀ k, x2.own p k → x.own p k ∨ W3.heap.size ≤ k := fun k hk => (hqo k hk).imp_right (fun r => Nat.le_trans u01.size r)
   cases bb with
   | true =>
    obtain ⟨ps, ha, hpi, hvs, hms⟩ := ht rfl
    rw [ha] at hwr
    have hgx := HX.out.2 hok.1
    have hol := oper_len ha
    refine ⟨q, { x2 with i := x.i + 1 }, ⟨_, rfl⟩, hqb5, hqk, hR, ⟨f5, fun _ => ?_⟩, hql, ho5, hu5, fun _ => ?_, fun q => absurd hok.1 q⟩
    ·
     show x2.vs.length ≤ x.i + 1 ∧ x2.ms.length ≤ x.i + 1
     rw [hvs, hms]
     have : (psOf x).vs.length = x.vs.length := rfl
     have : (psOf x).ms.length = x.ms.length := rfl
     omega
    ·
     rw [hwr]
     refine ⟨hw2, ?_, rfl, Nat.le_refl _⟩
     show (⟨x.i + 1, x2.vs, x2.ms⟩ : PS) = ⟨x.i + 1, ps.vs, ps.ms⟩
     rw [hvs, hms]
   | false =>
    rw [hff rfl] at hwr
    refine ⟨q, x2.fail 2 (posT L x.i), ⟨_, rfl⟩, hqb5, hqk, hR, Good.fail (by rw [hi2]; omega) (by decide), by rw [fail_left]; exact hql, fun k hk => ho5 k ((fail_own _ _ _ _ _).1 hk), hu5, fun _ => ?_, fun q => absurd hok.1 q⟩
    rw [hwr, fail_zero hw2, hpos]
    exact ⟨rfl, rfl⟩
  ·
   refine ⟨.mk 0 0 0 0 [], x.fail 2 (posT L x.i), ⟨_, rfl⟩, HG3.out.upd hu (by omega), rfl, hR, Good.fail HX.out.1 (by decide), fail_left _ _ _, fun k hk => .inl ((fail_own _ _ _ _ _).1 hk), hu.mono (fun _ _ h => .inl (.inl h)), fun h0 => ?_, fun h1 => absurd h0 h1⟩
   rw [hL.word HX.out.1, h0] at hok
   have hwr := Hr0.out.symm
   rw [wrd_eq, show (psOf x).i = x.i from rfl] at hwr
   cases hk : wkF T x.i with
   | none =>
    rw [hk] at hwr
    rw [hwr, fail_zero h0, hpos]
    exact ⟨rfl, rfl⟩
   | some sw => rw [hk] at hok; cases hok
 obtain ⟨v, rfl⟩ := ev
 clear HWD
 have HS : Hid (AppS w w5 p A c L x y0 (p0 q0)) := by
  refine ⟨hy5, HX3.out.upd hu5 (fun q => ?_), HR3.out.upd hu5 (fun q => ?_), hq5, fun k hk => (hyo k hk).imp_right (fun r => by omega), hown, (HU3.out.mono (fun _ _ f => f.elim)).trans hu5 (fun j hj r => ?_)⟩
  ·
   rcases q with q | q | q
   ·
    have := hown _ q; omega
   ·
    omega
   ·
    omega
  ·
   rcases q with q | q | q
   ·
    have := hown _ q; omega
   ·
    omega
   ·
    omega
  ·
   rcases r with r | r | r
   ·
    exact r
   ·
    omega
   ·
    omega
 have HR0 : Hid (ResS x y0 (wrdF T fin (operF left) (psOf x)) (fun v => v = q0 ∧ x.i + 1 ≤ y0.i)) := by show ResS _ _ _ _; rw [Hr0.out]; exact hrs
 unfold p0 at hq5
 have z1 := hq5.cell 1
 obtain ⟨n, Hn⟩ := nm ((arF q0.op).getD 0)
 have CA := Lib.hid (rArity_c q0.op w5)
 rw [Hn.out] at CA
 have hn3 : n ≤ 3 := by rw [← Hn.out]; exact arF_le _
 have HG := Lib.hid hgy
 have HYL : Hid (y0.left = left) := hyl.trans hl
 clear hq5 hy5 hgy hyo hu5 hrs hyl d0 e1 e2 e3 Hr0 H3 HX3 HR3 HG3 HU3
 go_wp2_with fail
 refine CA.out.mono ?_
 rintro e wa ⟨rfl, rfl⟩
 clear CA z1
 go_wp2_with fail
 go_loopg [6] n (fun g i wr => ∃ (j : Nat) (Ak : Option Addr) (ck : Nat) (ks : List Pt) (y : St), Hid (g = n - j) ∧ j ≤ n ∧ i = .int .i64 j ∧ Hid (AppS w wr p A c L x y #[.int .i64 q0.v, .int .i64 q0.op, .int .i64 q0.imm, .int .i64 q0.iv, .slice Ak j ck]) ∧ Hid (KO (w.heap.size + 3) p wr y Ak j ck ks) ∧ Hid (Good T y) ∧ Hid (y.left = left) ∧ Hid (ResS y0 y (kidsF (termF T fin left f) j (psOf y0)) (fun v => v = ks)) ∧ Hid (y.why = 0 → Pt.sizeL ks + y0.i ≤ y.i))
 case atStart => exact ⟨0, none, 0, [], y0, rfl, Nat.zero_le _, rfl, HS.out, KO.nil, HG.out, HYL.out, ⟨fun h => ⟨h, rfl, rfl⟩, fun h => ⟨rfl, rfl⟩⟩, fun _ => by show Pt.sizeL [] + y0.i ≤ y0.i; simp [Pt.sizeL]⟩
 case round =>
  obtain ⟨j, Ak, ck, ks, y, Hg, hj, rfl, HS1, HK, HG1, HL1, HR, HZ⟩ := hrel
  obtain ⟨D, HD⟩ := nm (decide (j < n) && (y.why == 0))
  have hyi : y.i < L.length := by have := hL.lt; have := HG1.out.1; omega
  have d0 := HS1.out.box.cell 0
  clear HS HG HYL
  go_upto_region 5 with fail
  go_cut [22] (fun s wx => s = .bool D ∧ wx = wr)
  case first =>
   have CO := Lib.hid (rOk_c HS1.out.rd)
   obtain ⟨bw, Hbw⟩ := nm (y.why == 0)
   rw [Hbw.out] at CO HD
   by_cases hlt : j < n
   ·
    have tj : decide ((j : Int) < (n : Int)) = true := decide_eq_true (by omega)
    have hD : D = bw := by rw [← HD.out, decide_eq_true hlt]; rfl
    subst hD
    go_wp2_with fail
    refine CO.out.mono ?_
    rintro e w2 ⟨rfl, rfl⟩
    go_wp2_with fail
    go_meet
    case rel => exact ⟨rfl, rfl⟩
   ·
    have tj : decide ((j : Int) < (n : Int)) = false := decide_eq_false (by omega)
    have hD : D = false := by rw [← HD.out, decide_eq_false hlt]; rfl
    subst hD
    go_wp2_with fail
    go_meet
    case rel => exact ⟨rfl, rfl⟩
  case rest =>
   obtain ⟨rfl, hwc⟩ := hcut
   subst hwc
   obtain ⟨wr, rfl⟩ : ∃ v : World, v = wc := ⟨_, rfl⟩
   cases D with
   | true =>
    have hDD := HD.out
    simp only [Bool.and_eq_true, decide_eq_true_eq, beq_iff_eq] at hDD
    have hlt := hDD.1
    have H0Y : Hid (y.why = 0) := hDD.2
    have HFU : Hid (T.length < y.i + f) := by
     show T.length < y.i + f
     have h00 : y0.why = 0 := by
      by_cases q : y0.why = 0
      ·
       exact q
      ·
       exact absurd ((HR.out.2 q).1 ▸ hDD.2) q
     have h1 := HZ.out hDD.2
     have h2 := HR0.out.1 h0
     cases hw : wrdF T fin (operF left) (psOf x) with
     | error e => rw [hw] at h2; exact absurd (h2.1 ▸ h00) (wrdF_err hw)
     | ok v => rw [hw] at h2; have : x.i + 1 ≤ y0.i := h2.2.2.2; omega
    have HG := HG1
    have HYL := HL1
    clear hDD HD
    go_upto_region 7 with fail
    obtain ⟨wD, HwD⟩ := nm wr.drew
    have uD : Upd Non wr wD := by rw [← HwD.out]; exact Upd.refl.drew
    have HS := Lib.hid (HS1.out.non uD)
    have HK := Lib.hid (HK.out.non uD)
    refine wp_region_held_drew (S := fun w' => w'.cell? ⟨w.heap.size, 0, none⟩ = some (.pointer (some ⟨p, 0, none⟩))) (by kernel_rfl) (by rw [HwD.out]; exact HS.out.box.cell 0) (fun hHeld => ?_)
    rw [HwD.out] at hHeld ⊢
    clear d0 HS1
    refine wpT 0 ?_
    try simp only [put_y]
    try simp only [Act.put]
    try simp only [put_z]
    refine wpT 2 ?_
    try simp only [put_y]
    try simp only [Act.put]
    try simp only [put_z]
    refine wpAnyH_ready (rs := [1, 3, 5]) (by kernel_rfl) (by simp) ?_
    refine AllReadyH.cons rfl (fun K hK => ?_) (AllReadyH.cons rfl (fun K hK => ?_) (AllReadyH.cons rfl (fun K hK => ?_) AllReadyH.nil))
    ·
     have d4 := HS.out.pat.cell 4
     go_simp
     refine hK.out _ _ ?_ (fun hHeld => ?_)
     ·
      exact HS.out.box.cell 0
     clear hK K
     try simp only [put_y]
     try simp only [Act.put]
     try simp only [put_z]
     clear d4
     refine wpT 4 ?_
     try simp only [put_y]
     try simp only [Act.put]
     try simp only [put_z]
     refine wpAnyH_ready (rs := [3, 5]) (by kernel_rfl) (by simp) ?_
     refine AllReadyH.cons rfl (fun K hK => ?_) (AllReadyH.cons rfl (fun K hK => ?_) AllReadyH.nil)
     ·
      go_simp
      have HLT0 : Hid (∀ k, At Ak k → k < _) := fun k r => HK.out.1.lt r
      have HN1 := Lib.hid HS.out.le
      have HLT := HLT0
      refine (HT.out HS.out.rd HG.out HYL.out H0Y.out HFU.out).mono ?_
      rintro e w6 ⟨q, KA, kc, y', rfl, hq, hy', hg', hl', ho', hu', hres⟩
      have HSO := HS
      have HS := Lib.hid (HS.out.call hy' ho' hu')
      have HG2 := Lib.hid hg'
      have HL2 : Hid (y'.left = left) := hl'.trans HYL.out
      have HRS := Lib.hid hres
      have HQ := Lib.hid hq
      have HK := Lib.hid (HK.out.step HSO.out.rd hu' ho')
      clear hq hy' hg' hl' ho' hu' hres
      unfold pv
      go_wp2_with fail
      refine hK.out _ _ ?_ (fun hHeld => ?_)
      ·
       exact HS.out.box.cell 0
      clear hK K
      try simp only [put_y]
      try simp only [Act.put]
      try simp only [put_z]
      refine wpAnyH_ready (rs := [5]) (by kernel_rfl) (by simp) ?_
      refine AllReadyH.cons rfl (fun K hK => ?_) AllReadyH.nil
      go_simp
      have HQ := Lib.hid (PtK.upd (Upd.refl.alloc (.cells #[.int .i64 0, .int .i64 0, .int .i64 0, .int .i64 0, .slice none 0 0] 30) (S := Non)) (fun _ _ _ f => f) _ _ _ HQ.out)
      have HS := Lib.hid (HS.out.non (Upd.refl.alloc (.cells #[.int .i64 0, .int .i64 0, .int .i64 0, .int .i64 0, .slice none 0 0] 30) (S := Non)))
      have HK := Lib.hid (HK.out.non (Upd.refl.alloc (.cells #[.int .i64 0, .int .i64 0, .int .i64 0, .int .i64 0, .slice none 0 0] 30) (S := Non)))
      refine hK.out _ _ ?_ (fun hHeld => ?_)
      ·
       exact HS.out.box.cell 0
      clear hK K
      try simp only [put_y]
      try simp only [Act.put]
      try simp only [put_z]
      refine wpAnyH_ready (rs := [6]) (by kernel_rfl) (by simp) ?_
      refine AllReadyH.cons rfl (fun K hK => ?_) AllReadyH.nil
      obtain ⟨hkn, cs8, hko, hkc⟩ := id HK.out.1
      have hjc : j ≤ ck := hko.le
      refine step_app rfl rfl T_pats rfl hko rfl (Sl.new _ _ _) rfl (by simp [Value.oneCell']) (by simp only [maxLen]; omega) (by omega) ?_
      intro A8 c8 w8 ho8 hu8 hat8
      have HK2 := Lib.hid (KO2.of hkn hkc HK.out.2 HS.out.le ho8 hu8 hat8)
      have HSP := HS
      have HS := Lib.hid (HS.out.far hu8 HK.out.2 (HSP.out.rd.own_ne hko) hpw)
      have HQ8 := Lib.hid (PtK.past HQ.out HLT.out HN1.out hu8 hat8)
      clear hkn hko hkc ho8 hu8 hat8
      refine hK.out _ _ ?_ (fun hHeld => ?_)
      ·
       exact HS.out.box.cell 0
      clear hK K
      try simp only [put_y]
      try simp only [Act.put]
      try simp only [put_z]
      obtain ⟨g, rfl, hc5, hf5⟩ := HK2.out.some_
      have tj1 : (j : Int) < (j : Int) + 1 := by omega
      refine wpT 7 ?_
      try simp only [put_y]
      try simp only [Act.put]
      try simp only [put_z]
      refine wpT 9 ?_
      try simp only [put_y]
      try simp only [Act.put]
      try simp only [put_z]
      refine wpAnyH_ready (rs := [8, 10]) (by kernel_rfl) (by simp) ?_
      refine AllReadyH.cons rfl (fun K hK => ?_) (AllReadyH.cons rfl (fun K hK => ?_) AllReadyH.nil)
      ·
       skip
       have k0 := hc5 (j * 5) rfl 0 (by decide)
       have k1 := hc5 (j * 5) rfl 1 (by decide)
       have k2 := hc5 (j * 5) rfl 2 (by decide)
       have k3 := hc5 (j * 5) rfl 3 (by decide)
       have k4 := hc5 (j * 5) rfl 4 (by decide)
       rw [Nat.add_zero] at k0
       unfold zs5 at k0 k1 k2 k3 k4
       go_simp
       rw [set5o_eq]
       have HK9 := Lib.hid (HK2.out.fin HQ8.out rfl (o := j * 5) rfl)
       have HS := Lib.hid (HS.out.far (set5o_upd _ _ (j * 5) (.int .i64 q.v) (.int .i64 q.op) (.int .i64 q.imm) (.int .i64 q.iv) (.slice KA q.kids.length kc)) (fun k e => HK2.out.2.2 k (At.some_.2 e)) (fun k e => HS.out.rd.own_ne (Classical.choose_spec HK2.out.2.1).1 k (At.some_.2 e)) hpw)
       refine hK.out _ _ ?_ (fun hHeld => ?_)
       ·
        exact HS.out.box.cell 0
       clear hK K
       try simp only [put_y]
       try simp only [Act.put]
       try simp only [put_z]
       clear k0 k1 k2 k3 k4 hc5 hf5
       refine wpAnyH_ready (rs := [10]) (by kernel_rfl) (by simp) ?_
       refine AllReadyH.cons rfl (fun K hK => ?_) AllReadyH.nil
       have d4 := HS.out.pat.cell 4
       have f4 := HS.out.pat.frozen 4
       go_simp
       obtain ⟨w9, e9, huu, hsk⟩ := HS.out.kids (.slice (some ⟨g, 0, none⟩) (j + 1) c8)
       rw [e9]
       clear e9
       have HS := Lib.hid hsk
       have HK9 := Lib.hid (HK9.out.near huu (by omega))
       clear hsk huu d4 f4
       refine hK.out _ _ ?_ (fun hHeld => ?_)
       ·
        exact HS.out.box.cell 0
       clear hK K
       try simp only [put_y]
       try simp only [Act.put]
       try simp only [put_z]
       refine wpAnyH_done (by kernel_rfl) ?_ _
       go_wp2_with fail
       go_roundg (n - (j + 1))
       case measure => rw [Hg.out]; omega
       case rel => exact ⟨j + 1, some ⟨g, 0, none⟩, c8, ks ++ [q], y', rfl, by omega, by go_num, HS.out, HK9.out, HG2.out, HL2.out, (kids_step HR.out H0Y.out (termF_err f) HRS.out HZ.out).1, (kids_step HR.out H0Y.out (termF_err f) HRS.out HZ.out).2⟩
      ·
       skip
       have d4 := HS.out.pat.cell 4
       have f4 := HS.out.pat.frozen 4
       go_simp
       obtain ⟨w9, e9, huu, hsk⟩ := HS.out.kids (.slice (some ⟨g, 0, none⟩) (j + 1) c8)
       rw [e9]
       clear e9
       have HS := Lib.hid hsk
       have HK2 := Lib.hid (HK2.out.near huu (by omega))
       have HQ8 := Lib.hid (PtK.upd huu (fun k _ r e => by have := r.1.1; omega) _ _ _ HQ8.out)
       clear hsk huu d4 f4 hc5 hf5
       obtain ⟨g', hg', hc5, hf5⟩ := HK2.out.some_
       injection hg' with hg'; injection hg' with hg'; subst hg'
       refine hK.out _ _ ?_ (fun hHeld => ?_)
       ·
        exact HS.out.box.cell 0
       clear hK K
       try simp only [put_y]
       try simp only [Act.put]
       try simp only [put_z]
       have k0 := hc5 (j * 5) rfl 0 (by decide)
       have k1 := hc5 (j * 5) rfl 1 (by decide)
       have k2 := hc5 (j * 5) rfl 2 (by decide)
       have k3 := hc5 (j * 5) rfl 3 (by decide)
       have k4 := hc5 (j * 5) rfl 4 (by decide)
       rw [Nat.add_zero] at k0
       unfold zs5 at k0 k1 k2 k3 k4
       refine wpAnyH_ready (rs := [8]) (by kernel_rfl) (by simp) ?_
       refine AllReadyH.cons rfl (fun K hK => ?_) AllReadyH.nil
       go_simp
       rw [set5o_eq]
       have HK9 := Lib.hid (HK2.out.fin HQ8.out rfl (o := j * 5) rfl)
       have HS := Lib.hid (HS.out.far (set5o_upd _ _ (j * 5) (.int .i64 q.v) (.int .i64 q.op) (.int .i64 q.imm) (.int .i64 q.iv) (.slice KA q.kids.length kc)) (fun k e => HK2.out.2.2 k (At.some_.2 e)) (fun k e => HS.out.rd.own_ne (Classical.choose_spec HK2.out.2.1).1 k (At.some_.2 e)) hpw)
       refine hK.out _ _ ?_ (fun hHeld => ?_)
       ·
        exact HS.out.box.cell 0
       clear hK K
       try simp only [put_y]
       try simp only [Act.put]
       try simp only [put_z]
       clear k0 k1 k2 k3 k4 hc5 hf5
       refine wpAnyH_done (by kernel_rfl) ?_ _
       go_wp2_with fail
       go_roundg (n - (j + 1))
       case measure => rw [Hg.out]; omega
       case rel => exact ⟨j + 1, some ⟨g, 0, none⟩, c8, ks ++ [q], y', rfl, by omega, by go_num, HS.out, HK9.out, HG2.out, HL2.out, (kids_step HR.out H0Y.out (termF_err f) HRS.out HZ.out).1, (kids_step HR.out H0Y.out (termF_err f) HRS.out HZ.out).2⟩
     ·
      go_simp
      have hlo : ∀ k, y.own p k → k < _ := fun k r => HS.out.rd.lt r
      have HZS := Lib.hid (Sl.new wD 30 [.int .i64 0, .int .i64 0, .int .i64 0, .int .i64 0, .slice none 0 0])
      have HS := Lib.hid (HS.out.non (Upd.refl.alloc (.cells #[.int .i64 0, .int .i64 0, .int .i64 0, .int .i64 0, .slice none 0 0] 30) (S := Non)))
      have HK := Lib.hid (HK.out.non (Upd.refl.alloc (.cells #[.int .i64 0, .int .i64 0, .int .i64 0, .int .i64 0, .slice none 0 0] 30) (S := Non)))
      refine hK.out _ _ ?_ (fun hHeld => ?_)
      ·
       exact HS.out.box.cell 0
      clear hK K
      try simp only [put_y]
      try simp only [Act.put]
      try simp only [put_z]
      refine wpAnyH_ready (rs := [3]) (by kernel_rfl) (by simp) ?_
      refine AllReadyH.cons rfl (fun K hK => ?_) AllReadyH.nil
      go_simp
      have HLT0 : Hid (∀ k, At Ak k → k < _) := fun k r => HK.out.1.lt r
      have HN1 := Lib.hid HS.out.le
      have HLT := HLT0
      refine (HT.out HS.out.rd HG.out HYL.out H0Y.out HFU.out).mono ?_
      rintro e w6 ⟨q, KA, kc, y', rfl, hq, hy', hg', hl', ho', hu', hres⟩
      have HSO := HS
      have HS := Lib.hid (HS.out.call hy' ho' hu')
      have HG2 := Lib.hid hg'
      have HL2 : Hid (y'.left = left) := hl'.trans HYL.out
      have HRS := Lib.hid hres
      have HQ := Lib.hid hq
      have HK := Lib.hid (HK.out.step HSO.out.rd hu' ho')
      have HZS := Lib.hid (HZS.out.upd hu' (fun k _ e r => by subst e; exact Nat.lt_irrefl _ (hlo _ r)))
      clear hq hy' hg' hl' ho' hu' hres
      unfold pv
      go_wp2_with fail
      refine hK.out _ _ ?_ (fun hHeld => ?_)
      ·
       exact HS.out.box.cell 0
      clear hK K
      try simp only [put_y]
      try simp only [Act.put]
      try simp only [put_z]
      refine wpAnyH_ready (rs := [6]) (by kernel_rfl) (by simp) ?_
      refine AllReadyH.cons rfl (fun K hK => ?_) AllReadyH.nil
      obtain ⟨hkn, cs8, hko, hkc⟩ := id HK.out.1
      have hjc : j ≤ ck := hko.le
      refine step_app rfl rfl T_pats rfl hko rfl HZS.out rfl (by simp [Value.oneCell']) (by simp only [maxLen]; omega) (by omega) ?_
      intro A8 c8 w8 ho8 hu8 hat8
      have HK2 := Lib.hid (KO2.of hkn hkc HK.out.2 HS.out.le ho8 hu8 hat8)
      have HSP := HS
      have HS := Lib.hid (HS.out.far hu8 HK.out.2 (HSP.out.rd.own_ne hko) hpw)
      have HQ8 := Lib.hid (PtK.past HQ.out HLT.out HN1.out hu8 hat8)
      clear hkn hko hkc ho8 hu8 hat8
      refine hK.out _ _ ?_ (fun hHeld => ?_)
      ·
       exact HS.out.box.cell 0
      clear hK K
      try simp only [put_y]
      try simp only [Act.put]
      try simp only [put_z]
      obtain ⟨g, rfl, hc5, hf5⟩ := HK2.out.some_
      have tj1 : (j : Int) < (j : Int) + 1 := by omega
      refine wpT 7 ?_
      try simp only [put_y]
      try simp only [Act.put]
      try simp only [put_z]
      refine wpT 9 ?_
      try simp only [put_y]
      try simp only [Act.put]
      try simp only [put_z]
      refine wpAnyH_ready (rs := [8, 10]) (by kernel_rfl) (by simp) ?_
      refine AllReadyH.cons rfl (fun K hK => ?_) (AllReadyH.cons rfl (fun K hK => ?_) AllReadyH.nil)
      ·
       skip
       have k0 := hc5 (j * 5) rfl 0 (by decide)
       have k1 := hc5 (j * 5) rfl 1 (by decide)
       have k2 := hc5 (j * 5) rfl 2 (by decide)
       have k3 := hc5 (j * 5) rfl 3 (by decide)
       have k4 := hc5 (j * 5) rfl 4 (by decide)
       rw [Nat.add_zero] at k0
       unfold zs5 at k0 k1 k2 k3 k4
       go_simp
       rw [set5o_eq]
       have HK9 := Lib.hid (HK2.out.fin HQ8.out rfl (o := j * 5) rfl)
       have HS := Lib.hid (HS.out.far (set5o_upd _ _ (j * 5) (.int .i64 q.v) (.int .i64 q.op) (.int .i64 q.imm) (.int .i64 q.iv) (.slice KA q.kids.length kc)) (fun k e => HK2.out.2.2 k (At.some_.2 e)) (fun k e => HS.out.rd.own_ne (Classical.choose_spec HK2.out.2.1).1 k (At.some_.2 e)) hpw)
       refine hK.out _ _ ?_ (fun hHeld => ?_)
       ·
        exact HS.out.box.cell 0
       clear hK K
       try simp only [put_y]
       try simp only [Act.put]
       try simp only [put_z]
       clear k0 k1 k2 k3 k4 hc5 hf5
       refine wpAnyH_ready (rs := [10]) (by kernel_rfl) (by simp) ?_
       refine AllReadyH.cons rfl (fun K hK => ?_) AllReadyH.nil
       have d4 := HS.out.pat.cell 4
       have f4 := HS.out.pat.frozen 4
       go_simp
       obtain ⟨w9, e9, huu, hsk⟩ := HS.out.kids (.slice (some ⟨g, 0, none⟩) (j + 1) c8)
       rw [e9]
       clear e9
       have HS := Lib.hid hsk
       have HK9 := Lib.hid (HK9.out.near huu (by omega))
       clear hsk huu d4 f4
       refine hK.out _ _ ?_ (fun hHeld => ?_)
       ·
        exact HS.out.box.cell 0
       clear hK K
       try simp only [put_y]
       try simp only [Act.put]
       try simp only [put_z]
       refine wpAnyH_done (by kernel_rfl) ?_ _
       go_wp2_with fail
       go_roundg (n - (j + 1))
       case measure => rw [Hg.out]; omega
       case rel => exact ⟨j + 1, some ⟨g, 0, none⟩, c8, ks ++ [q], y', rfl, by omega, by go_num, HS.out, HK9.out, HG2.out, HL2.out, (kids_step HR.out H0Y.out (termF_err f) HRS.out HZ.out).1, (kids_step HR.out H0Y.out (termF_err f) HRS.out HZ.out).2⟩
      ·
       skip
       have d4 := HS.out.pat.cell 4
       have f4 := HS.out.pat.frozen 4
       go_simp
       obtain ⟨w9, e9, huu, hsk⟩ := HS.out.kids (.slice (some ⟨g, 0, none⟩) (j + 1) c8)
       rw [e9]
       clear e9
       have HS := Lib.hid hsk
       have HK2 := Lib.hid (HK2.out.near huu (by omega))
       have HQ8 := Lib.hid (PtK.upd huu (fun k _ r e => by have := r.1.1; omega) _ _ _ HQ8.out)
       clear hsk huu d4 f4 hc5 hf5
       obtain ⟨g', hg', hc5, hf5⟩ := HK2.out.some_
       injection hg' with hg'; injection hg' with hg'; subst hg'
       refine hK.out _ _ ?_ (fun hHeld => ?_)
       ·
        exact HS.out.box.cell 0
       clear hK K
       try simp only [put_y]
       try simp only [Act.put]
       try simp only [put_z]
       have k0 := hc5 (j * 5) rfl 0 (by decide)
       have k1 := hc5 (j * 5) rfl 1 (by decide)
       have k2 := hc5 (j * 5) rfl 2 (by decide)
       have k3 := hc5 (j * 5) rfl 3 (by decide)
       have k4 := hc5 (j * 5) rfl 4 (by decide)
       rw [Nat.add_zero] at k0
       unfold zs5 at k0 k1 k2 k3 k4
       refine wpAnyH_ready (rs := [8]) (by kernel_rfl) (by simp) ?_
       refine AllReadyH.cons rfl (fun K hK => ?_) AllReadyH.nil
       go_simp
       rw [set5o_eq]
       have HK9 := Lib.hid (HK2.out.fin HQ8.out rfl (o := j * 5) rfl)
       have HS := Lib.hid (HS.out.far (set5o_upd _ _ (j * 5) (.int .i64 q.v) (.int .i64 q.op) (.int .i64 q.imm) (.int .i64 q.iv) (.slice KA q.kids.length kc)) (fun k e => HK2.out.2.2 k (At.some_.2 e)) (fun k e => HS.out.rd.own_ne (Classical.choose_spec HK2.out.2.1).1 k (At.some_.2 e)) hpw)
       refine hK.out _ _ ?_ (fun hHeld => ?_)
       ·
        exact HS.out.box.cell 0
       clear hK K
       try simp only [put_y]
       try simp only [Act.put]
       try simp only [put_z]
       clear k0 k1 k2 k3 k4 hc5 hf5
       refine wpAnyH_done (by kernel_rfl) ?_ _
       go_wp2_with fail
       go_roundg (n - (j + 1))
       case measure => rw [Hg.out]; omega
       case rel => exact ⟨j + 1, some ⟨g, 0, none⟩, c8, ks ++ [q], y', rfl, by omega, by go_num, HS.out, HK9.out, HG2.out, HL2.out, (kids_step HR.out H0Y.out (termF_err f) HRS.out HZ.out).1, (kids_step HR.out H0Y.out (termF_err f) HRS.out HZ.out).2⟩
    ·
     go_simp
     have HLT0 : Hid (∀ k, At Ak k → k < _) := fun k r => HK.out.1.lt r
     have HN1 := Lib.hid HS.out.le
     have HLT := HLT0
     refine (HT.out HS.out.rd HG.out HYL.out H0Y.out HFU.out).mono ?_
     rintro e w6 ⟨q, KA, kc, y', rfl, hq, hy', hg', hl', ho', hu', hres⟩
     have HSO := HS
     have HS := Lib.hid (HS.out.call hy' ho' hu')
     have HG2 := Lib.hid hg'
     have HL2 : Hid (y'.left = left) := hl'.trans HYL.out
     have HRS := Lib.hid hres
     have HQ := Lib.hid hq
     have HK := Lib.hid (HK.out.step HSO.out.rd hu' ho')
     clear hq hy' hg' hl' ho' hu' hres
     unfold pv
     go_wp2_with fail
     refine hK.out _ _ ?_ (fun hHeld => ?_)
     ·
      exact HS.out.box.cell 0
     clear hK K
     try simp only [put_y]
     try simp only [Act.put]
     try simp only [put_z]
     have d4 := HS.out.pat.cell 4
     refine wpAnyH_takeM (fun w' => w'.cell? ⟨w.heap.size + 2, 4, none⟩ = some (.slice Ak j ck)) (calm_cell _ _) [10, 8, 6, 7, 9] (i := 1) (v := ?_) rfl (by kernel_rfl) (by kernel_rfl) (by kernel_rfl) (by kernel_rfl) (fun _ _ _ h => h) (Or.inl ⟨by rfl, ?_⟩) (d4) (by assumption) ?_
     rotate_left
     ·
      intro w hSw; (try dsimp only at hSw); go_simp; try with_reducible rfl
     try simp only [put_y]
     try simp only [Act.put]
     try simp only [put_z]
     clear d4
     refine wpT 4 ?_
     try simp only [put_y]
     try simp only [Act.put]
     try simp only [put_z]
     refine wpAnyH_ready (rs := [5]) (by kernel_rfl) (by simp) ?_
     refine AllReadyH.cons rfl (fun K hK => ?_) AllReadyH.nil
     go_simp
     have HQ := Lib.hid (PtK.upd (Upd.refl.alloc (.cells #[.int .i64 0, .int .i64 0, .int .i64 0, .int .i64 0, .slice none 0 0] 30) (S := Non)) (fun _ _ _ f => f) _ _ _ HQ.out)
     have HS := Lib.hid (HS.out.non (Upd.refl.alloc (.cells #[.int .i64 0, .int .i64 0, .int .i64 0, .int .i64 0, .slice none 0 0] 30) (S := Non)))
     have HK := Lib.hid (HK.out.non (Upd.refl.alloc (.cells #[.int .i64 0, .int .i64 0, .int .i64 0, .int .i64 0, .slice none 0 0] 30) (S := Non)))
     refine hK.out _ _ ?_ (fun hHeld => ?_)
     ·
      exact HS.out.box.cell 0
     clear hK K
     try simp only [put_y]
     try simp only [Act.put]
     try simp only [put_z]
     refine wpAnyH_ready (rs := [6]) (by kernel_rfl) (by simp) ?_
     refine AllReadyH.cons rfl (fun K hK => ?_) AllReadyH.nil
     obtain ⟨hkn, cs8, hko, hkc⟩ := id HK.out.1
     have hjc : j ≤ ck := hko.le
     refine step_app rfl rfl T_pats rfl hko rfl (Sl.new _ _ _) rfl (by simp [Value.oneCell']) (by simp only [maxLen]; omega) (by omega) ?_
     intro A8 c8 w8 ho8 hu8 hat8
     have HK2 := Lib.hid (KO2.of hkn hkc HK.out.2 HS.out.le ho8 hu8 hat8)
     have HSP := HS
     have HS := Lib.hid (HS.out.far hu8 HK.out.2 (HSP.out.rd.own_ne hko) hpw)
     have HQ8 := Lib.hid (PtK.past HQ.out HLT.out HN1.out hu8 hat8)
     clear hkn hko hkc ho8 hu8 hat8
     refine hK.out _ _ ?_ (fun hHeld => ?_)
     ·
      exact HS.out.box.cell 0
     clear hK K
     try simp only [put_y]
     try simp only [Act.put]
     try simp only [put_z]
     obtain ⟨g, rfl, hc5, hf5⟩ := HK2.out.some_
     have tj1 : (j : Int) < (j : Int) + 1 := by omega
     refine wpT 7 ?_
     try simp only [put_y]
     try simp only [Act.put]
     try simp only [put_z]
     refine wpT 9 ?_
     try simp only [put_y]
     try simp only [Act.put]
     try simp only [put_z]
     refine wpAnyH_ready (rs := [8, 10]) (by kernel_rfl) (by simp) ?_
     refine AllReadyH.cons rfl (fun K hK => ?_) (AllReadyH.cons rfl (fun K hK => ?_) AllReadyH.nil)
     ·
      skip
      have k0 := hc5 (j * 5) rfl 0 (by decide)
      have k1 := hc5 (j * 5) rfl 1 (by decide)
      have k2 := hc5 (j * 5) rfl 2 (by decide)
      have k3 := hc5 (j * 5) rfl 3 (by decide)
      have k4 := hc5 (j * 5) rfl 4 (by decide)
      rw [Nat.add_zero] at k0
      unfold zs5 at k0 k1 k2 k3 k4
      go_simp
      rw [set5o_eq]
      have HK9 := Lib.hid (HK2.out.fin HQ8.out rfl (o := j * 5) rfl)
      have HS := Lib.hid (HS.out.far (set5o_upd _ _ (j * 5) (.int .i64 q.v) (.int .i64 q.op) (.int .i64 q.imm) (.int .i64 q.iv) (.slice KA q.kids.length kc)) (fun k e => HK2.out.2.2 k (At.some_.2 e)) (fun k e => HS.out.rd.own_ne (Classical.choose_spec HK2.out.2.1).1 k (At.some_.2 e)) hpw)
      refine hK.out _ _ ?_ (fun hHeld => ?_)
      ·
       exact HS.out.box.cell 0
      clear hK K
      try simp only [put_y]
      try simp only [Act.put]
      try simp only [put_z]
      clear k0 k1 k2 k3 k4 hc5 hf5
      refine wpAnyH_ready (rs := [10]) (by kernel_rfl) (by simp) ?_
      refine AllReadyH.cons rfl (fun K hK => ?_) AllReadyH.nil
      have d4 := HS.out.pat.cell 4
      have f4 := HS.out.pat.frozen 4
      go_simp
      obtain ⟨w9, e9, huu, hsk⟩ := HS.out.kids (.slice (some ⟨g, 0, none⟩) (j + 1) c8)
      rw [e9]
      clear e9
      have HS := Lib.hid hsk
      have HK9 := Lib.hid (HK9.out.near huu (by omega))
      clear hsk huu d4 f4
      refine hK.out _ _ ?_ (fun hHeld => ?_)
      ·
       exact HS.out.box.cell 0
      clear hK K
      try simp only [put_y]
      try simp only [Act.put]
      try simp only [put_z]
      refine wpAnyH_done (by kernel_rfl) ?_ _
      go_wp2_with fail
      go_roundg (n - (j + 1))
      case measure => rw [Hg.out]; omega
      case rel => exact ⟨j + 1, some ⟨g, 0, none⟩, c8, ks ++ [q], y', rfl, by omega, by go_num, HS.out, HK9.out, HG2.out, HL2.out, (kids_step HR.out H0Y.out (termF_err f) HRS.out HZ.out).1, (kids_step HR.out H0Y.out (termF_err f) HRS.out HZ.out).2⟩
     ·
      skip
      have d4 := HS.out.pat.cell 4
      have f4 := HS.out.pat.frozen 4
      go_simp
      obtain ⟨w9, e9, huu, hsk⟩ := HS.out.kids (.slice (some ⟨g, 0, none⟩) (j + 1) c8)
      rw [e9]
      clear e9
      have HS := Lib.hid hsk
      have HK2 := Lib.hid (HK2.out.near huu (by omega))
      have HQ8 := Lib.hid (PtK.upd huu (fun k _ r e => by have := r.1.1; omega) _ _ _ HQ8.out)
      clear hsk huu d4 f4 hc5 hf5
      obtain ⟨g', hg', hc5, hf5⟩ := HK2.out.some_
      injection hg' with hg'; injection hg' with hg'; subst hg'
      refine hK.out _ _ ?_ (fun hHeld => ?_)
      ·
       exact HS.out.box.cell 0
      clear hK K
      try simp only [put_y]
      try simp only [Act.put]
      try simp only [put_z]
      have k0 := hc5 (j * 5) rfl 0 (by decide)
      have k1 := hc5 (j * 5) rfl 1 (by decide)
      have k2 := hc5 (j * 5) rfl 2 (by decide)
      have k3 := hc5 (j * 5) rfl 3 (by decide)
      have k4 := hc5 (j * 5) rfl 4 (by decide)
      rw [Nat.add_zero] at k0
      unfold zs5 at k0 k1 k2 k3 k4
      refine wpAnyH_ready (rs := [8]) (by kernel_rfl) (by simp) ?_
      refine AllReadyH.cons rfl (fun K hK => ?_) AllReadyH.nil
      go_simp
      rw [set5o_eq]
      have HK9 := Lib.hid (HK2.out.fin HQ8.out rfl (o := j * 5) rfl)
      have HS := Lib.hid (HS.out.far (set5o_upd _ _ (j * 5) (.int .i64 q.v) (.int .i64 q.op) (.int .i64 q.imm) (.int .i64 q.iv) (.slice KA q.kids.length kc)) (fun k e => HK2.out.2.2 k (At.some_.2 e)) (fun k e => HS.out.rd.own_ne (Classical.choose_spec HK2.out.2.1).1 k (At.some_.2 e)) hpw)
      refine hK.out _ _ ?_ (fun hHeld => ?_)
      ·
       exact HS.out.box.cell 0
      clear hK K
      try simp only [put_y]
      try simp only [Act.put]
      try simp only [put_z]
      clear k0 k1 k2 k3 k4 hc5 hf5
      refine wpAnyH_done (by kernel_rfl) ?_ _
      go_wp2_with fail
      go_roundg (n - (j + 1))
      case measure => rw [Hg.out]; omega
      case rel => exact ⟨j + 1, some ⟨g, 0, none⟩, c8, ks ++ [q], y', rfl, by omega, by go_num, HS.out, HK9.out, HG2.out, HL2.out, (kids_step HR.out H0Y.out (termF_err f) HRS.out HZ.out).1, (kids_step HR.out H0Y.out (termF_err f) HRS.out HZ.out).2⟩
    ·
     go_simp
     have hlo : ∀ k, y.own p k → k < _ := fun k r => HS.out.rd.lt r
     have HZS := Lib.hid (Sl.new wD 30 [.int .i64 0, .int .i64 0, .int .i64 0, .int .i64 0, .slice none 0 0])
     have HS := Lib.hid (HS.out.non (Upd.refl.alloc (.cells #[.int .i64 0, .int .i64 0, .int .i64 0, .int .i64 0, .slice none 0 0] 30) (S := Non)))
     have HK := Lib.hid (HK.out.non (Upd.refl.alloc (.cells #[.int .i64 0, .int .i64 0, .int .i64 0, .int .i64 0, .slice none 0 0] 30) (S := Non)))
     refine hK.out _ _ ?_ (fun hHeld => ?_)
     ·
      exact HS.out.box.cell 0
     clear hK K
     try simp only [put_y]
     try simp only [Act.put]
     try simp only [put_z]
     refine wpAnyH_ready (rs := [1, 3]) (by kernel_rfl) (by simp) ?_
     refine AllReadyH.cons rfl (fun K hK => ?_) (AllReadyH.cons rfl (fun K hK => ?_) AllReadyH.nil)
     ·
      have d4 := HS.out.pat.cell 4
      go_simp
      refine hK.out _ _ ?_ (fun hHeld => ?_)
      ·
       exact HS.out.box.cell 0
      clear hK K
      try simp only [put_y]
      try simp only [Act.put]
      try simp only [put_z]
      clear d4
      refine wpT 4 ?_
      try simp only [put_y]
      try simp only [Act.put]
      try simp only [put_z]
      refine wpAnyH_ready (rs := [3]) (by kernel_rfl) (by simp) ?_
      refine AllReadyH.cons rfl (fun K hK => ?_) AllReadyH.nil
      go_simp
      have HLT0 : Hid (∀ k, At Ak k → k < _) := fun k r => HK.out.1.lt r
      have HN1 := Lib.hid HS.out.le
      have HLT := HLT0
      refine (HT.out HS.out.rd HG.out HYL.out H0Y.out HFU.out).mono ?_
      rintro e w6 ⟨q, KA, kc, y', rfl, hq, hy', hg', hl', ho', hu', hres⟩
      have HSO := HS
      have HS := Lib.hid (HS.out.call hy' ho' hu')
      have HG2 := Lib.hid hg'
      have HL2 : Hid (y'.left = left) := hl'.trans HYL.out
      have HRS := Lib.hid hres
      have HQ := Lib.hid hq
      have HK := Lib.hid (HK.out.step HSO.out.rd hu' ho')
      have HZS := Lib.hid (HZS.out.upd hu' (fun k _ e r => by subst e; exact Nat.lt_irrefl _ (hlo _ r)))
      clear hq hy' hg' hl' ho' hu' hres
      unfold pv
      go_wp2_with fail
      refine hK.out _ _ ?_ (fun hHeld => ?_)
      ·
       exact HS.out.box.cell 0
      clear hK K
      try simp only [put_y]
      try simp only [Act.put]
      try simp only [put_z]
      refine wpAnyH_ready (rs := [6]) (by kernel_rfl) (by simp) ?_
      refine AllReadyH.cons rfl (fun K hK => ?_) AllReadyH.nil
      obtain ⟨hkn, cs8, hko, hkc⟩ := id HK.out.1
      have hjc : j ≤ ck := hko.le
      refine step_app rfl rfl T_pats rfl hko rfl HZS.out rfl (by simp [Value.oneCell']) (by simp only [maxLen]; omega) (by omega) ?_
      intro A8 c8 w8 ho8 hu8 hat8
      have HK2 := Lib.hid (KO2.of hkn hkc HK.out.2 HS.out.le ho8 hu8 hat8)
      have HSP := HS
      have HS := Lib.hid (HS.out.far hu8 HK.out.2 (HSP.out.rd.own_ne hko) hpw)
      have HQ8 := Lib.hid (PtK.past HQ.out HLT.out HN1.out hu8 hat8)
      clear hkn hko hkc ho8 hu8 hat8
      refine hK.out _ _ ?_ (fun hHeld => ?_)
      ·
       exact HS.out.box.cell 0
      clear hK K
      try simp only [put_y]
      try simp only [Act.put]
      try simp only [put_z]
      obtain ⟨g, rfl, hc5, hf5⟩ := HK2.out.some_
      have tj1 : (j : Int) < (j : Int) + 1 := by omega
      refine wpT 7 ?_
      try simp only [put_y]
      try simp only [Act.put]
      try simp only [put_z]
      refine wpT 9 ?_
      try simp only [put_y]
      try simp only [Act.put]
      try simp only [put_z]
      refine wpAnyH_ready (rs := [8, 10]) (by kernel_rfl) (by simp) ?_
      refine AllReadyH.cons rfl (fun K hK => ?_) (AllReadyH.cons rfl (fun K hK => ?_) AllReadyH.nil)
      ·
       skip
       have k0 := hc5 (j * 5) rfl 0 (by decide)
       have k1 := hc5 (j * 5) rfl 1 (by decide)
       have k2 := hc5 (j * 5) rfl 2 (by decide)
       have k3 := hc5 (j * 5) rfl 3 (by decide)
       have k4 := hc5 (j * 5) rfl 4 (by decide)
       rw [Nat.add_zero] at k0
       unfold zs5 at k0 k1 k2 k3 k4
       go_simp
       rw [set5o_eq]
       have HK9 := Lib.hid (HK2.out.fin HQ8.out rfl (o := j * 5) rfl)
       have HS := Lib.hid (HS.out.far (set5o_upd _ _ (j * 5) (.int .i64 q.v) (.int .i64 q.op) (.int .i64 q.imm) (.int .i64 q.iv) (.slice KA q.kids.length kc)) (fun k e => HK2.out.2.2 k (At.some_.2 e)) (fun k e => HS.out.rd.own_ne (Classical.choose_spec HK2.out.2.1).1 k (At.some_.2 e)) hpw)
       refine hK.out _ _ ?_ (fun hHeld => ?_)
       ·
        exact HS.out.box.cell 0
       clear hK K
       try simp only [put_y]
       try simp only [Act.put]
       try simp only [put_z]
       clear k0 k1 k2 k3 k4 hc5 hf5
       refine wpAnyH_ready (rs := [10]) (by kernel_rfl) (by simp) ?_
       refine AllReadyH.cons rfl (fun K hK => ?_) AllReadyH.nil
       have d4 := HS.out.pat.cell 4
       have f4 := HS.out.pat.frozen 4
       go_simp
       obtain ⟨w9, e9, huu, hsk⟩ := HS.out.kids (.slice (some ⟨g, 0, none⟩) (j + 1) c8)
       rw [e9]
       clear e9
       have HS := Lib.hid hsk
       have HK9 := Lib.hid (HK9.out.near huu (by omega))
       clear hsk huu d4 f4
       refine hK.out _ _ ?_ (fun hHeld => ?_)
       ·
        exact HS.out.box.cell 0
       clear hK K
       try simp only [put_y]
       try simp only [Act.put]
       try simp only [put_z]
       refine wpAnyH_done (by kernel_rfl) ?_ _
       go_wp2_with fail
       go_roundg (n - (j + 1))
       case measure => rw [Hg.out]; omega
       case rel => exact ⟨j + 1, some ⟨g, 0, none⟩, c8, ks ++ [q], y', rfl, by omega, by go_num, HS.out, HK9.out, HG2.out, HL2.out, (kids_step HR.out H0Y.out (termF_err f) HRS.out HZ.out).1, (kids_step HR.out H0Y.out (termF_err f) HRS.out HZ.out).2⟩
      ·
       skip
       have d4 := HS.out.pat.cell 4
       have f4 := HS.out.pat.frozen 4
       go_simp
       obtain ⟨w9, e9, huu, hsk⟩ := HS.out.kids (.slice (some ⟨g, 0, none⟩) (j + 1) c8)
       rw [e9]
       clear e9
       have HS := Lib.hid hsk
       have HK2 := Lib.hid (HK2.out.near huu (by omega))
       have HQ8 := Lib.hid (PtK.upd huu (fun k _ r e => by have := r.1.1; omega) _ _ _ HQ8.out)
       clear hsk huu d4 f4 hc5 hf5
       obtain ⟨g', hg', hc5, hf5⟩ := HK2.out.some_
       injection hg' with hg'; injection hg' with hg'; subst hg'
       refine hK.out _ _ ?_ (fun hHeld => ?_)
       ·
        exact HS.out.box.cell 0
       clear hK K
       try simp only [put_y]
       try simp only [Act.put]
       try simp only [put_z]
       have k0 := hc5 (j * 5) rfl 0 (by decide)
       have k1 := hc5 (j * 5) rfl 1 (by decide)
       have k2 := hc5 (j * 5) rfl 2 (by decide)
       have k3 := hc5 (j * 5) rfl 3 (by decide)
       have k4 := hc5 (j * 5) rfl 4 (by decide)
       rw [Nat.add_zero] at k0
       unfold zs5 at k0 k1 k2 k3 k4
       refine wpAnyH_ready (rs := [8]) (by kernel_rfl) (by simp) ?_
       refine AllReadyH.cons rfl (fun K hK => ?_) AllReadyH.nil
       go_simp
       rw [set5o_eq]
       have HK9 := Lib.hid (HK2.out.fin HQ8.out rfl (o := j * 5) rfl)
       have HS := Lib.hid (HS.out.far (set5o_upd _ _ (j * 5) (.int .i64 q.v) (.int .i64 q.op) (.int .i64 q.imm) (.int .i64 q.iv) (.slice KA q.kids.length kc)) (fun k e => HK2.out.2.2 k (At.some_.2 e)) (fun k e => HS.out.rd.own_ne (Classical.choose_spec HK2.out.2.1).1 k (At.some_.2 e)) hpw)
       refine hK.out _ _ ?_ (fun hHeld => ?_)
       ·
        exact HS.out.box.cell 0
       clear hK K
       try simp only [put_y]
       try simp only [Act.put]
       try simp only [put_z]
       clear k0 k1 k2 k3 k4 hc5 hf5
       refine wpAnyH_done (by kernel_rfl) ?_ _
       go_wp2_with fail
       go_roundg (n - (j + 1))
       case measure => rw [Hg.out]; omega
       case rel => exact ⟨j + 1, some ⟨g, 0, none⟩, c8, ks ++ [q], y', rfl, by omega, by go_num, HS.out, HK9.out, HG2.out, HL2.out, (kids_step HR.out H0Y.out (termF_err f) HRS.out HZ.out).1, (kids_step HR.out H0Y.out (termF_err f) HRS.out HZ.out).2⟩
     ·
      go_simp
      have HLT0 : Hid (∀ k, At Ak k → k < _) := fun k r => HK.out.1.lt r
      have HN1 := Lib.hid HS.out.le
      have HLT := HLT0
      refine (HT.out HS.out.rd HG.out HYL.out H0Y.out HFU.out).mono ?_
      rintro e w6 ⟨q, KA, kc, y', rfl, hq, hy', hg', hl', ho', hu', hres⟩
      have HSO := HS
      have HS := Lib.hid (HS.out.call hy' ho' hu')
      have HG2 := Lib.hid hg'
      have HL2 : Hid (y'.left = left) := hl'.trans HYL.out
      have HRS := Lib.hid hres
      have HQ := Lib.hid hq
      have HK := Lib.hid (HK.out.step HSO.out.rd hu' ho')
      have HZS := Lib.hid (HZS.out.upd hu' (fun k _ e r => by subst e; exact Nat.lt_irrefl _ (hlo _ r)))
      clear hq hy' hg' hl' ho' hu' hres
      unfold pv
      go_wp2_with fail
      refine hK.out _ _ ?_ (fun hHeld => ?_)
      ·
       exact HS.out.box.cell 0
      clear hK K
      try simp only [put_y]
      try simp only [Act.put]
      try simp only [put_z]
      have d4 := HS.out.pat.cell 4
      refine wpAnyH_takeM (fun w' => w'.cell? ⟨w.heap.size + 2, 4, none⟩ = some (.slice Ak j ck)) (calm_cell _ _) [10, 8, 6, 7, 9] (i := 1) (v := ?_) rfl (by kernel_rfl) (by kernel_rfl) (by kernel_rfl) (by kernel_rfl) (fun _ _ _ h => h) (Or.inl ⟨by rfl, ?_⟩) (d4) (by assumption) ?_
      rotate_left
      ·
       intro w hSw; (try dsimp only at hSw); go_simp; try with_reducible rfl
      try simp only [put_y]
      try simp only [Act.put]
      try simp only [put_z]
      clear d4
      refine wpT 4 ?_
      try simp only [put_y]
      try simp only [Act.put]
      try simp only [put_z]
      refine wpAnyH_ready (rs := [6]) (by kernel_rfl) (by simp) ?_
      refine AllReadyH.cons rfl (fun K hK => ?_) AllReadyH.nil
      obtain ⟨hkn, cs8, hko, hkc⟩ := id HK.out.1
      have hjc : j ≤ ck := hko.le
      refine step_app rfl rfl T_pats rfl hko rfl HZS.out rfl (by simp [Value.oneCell']) (by simp only [maxLen]; omega) (by omega) ?_
      intro A8 c8 w8 ho8 hu8 hat8
      have HK2 := Lib.hid (KO2.of hkn hkc HK.out.2 HS.out.le ho8 hu8 hat8)
      have HSP := HS
      have HS := Lib.hid (HS.out.far hu8 HK.out.2 (HSP.out.rd.own_ne hko) hpw)
      have HQ8 := Lib.hid (PtK.past HQ.out HLT.out HN1.out hu8 hat8)
      clear hkn hko hkc ho8 hu8 hat8
      refine hK.out _ _ ?_ (fun hHeld => ?_)
      ·
       exact HS.out.box.cell 0
      clear hK K
      try simp only [put_y]
      try simp only [Act.put]
      try simp only [put_z]
      obtain ⟨g, rfl, hc5, hf5⟩ := HK2.out.some_
      have tj1 : (j : Int) < (j : Int) + 1 := by omega
      refine wpT 7 ?_
      try simp only [put_y]
      try simp only [Act.put]
      try simp only [put_z]
      refine wpT 9 ?_
      try simp only [put_y]
      try simp only [Act.put]
      try simp only [put_z]
      refine wpAnyH_ready (rs := [8, 10]) (by kernel_rfl) (by simp) ?_
      refine AllReadyH.cons rfl (fun K hK => ?_) (AllReadyH.cons rfl (fun K hK => ?_) AllReadyH.nil)
      ·
       skip
       have k0 := hc5 (j * 5) rfl 0 (by decide)
       have k1 := hc5 (j * 5) rfl 1 (by decide)
       have k2 := hc5 (j * 5) rfl 2 (by decide)
       have k3 := hc5 (j * 5) rfl 3 (by decide)
       have k4 := hc5 (j * 5) rfl 4 (by decide)
       rw [Nat.add_zero] at k0
       unfold zs5 at k0 k1 k2 k3 k4
       go_simp
       rw [set5o_eq]
       have HK9 := Lib.hid (HK2.out.fin HQ8.out rfl (o := j * 5) rfl)
       have HS := Lib.hid (HS.out.far (set5o_upd _ _ (j * 5) (.int .i64 q.v) (.int .i64 q.op) (.int .i64 q.imm) (.int .i64 q.iv) (.slice KA q.kids.length kc)) (fun k e => HK2.out.2.2 k (At.some_.2 e)) (fun k e => HS.out.rd.own_ne (Classical.choose_spec HK2.out.2.1).1 k (At.some_.2 e)) hpw)
       refine hK.out _ _ ?_ (fun hHeld => ?_)
       ·
        exact HS.out.box.cell 0
       clear hK K
       try simp only [put_y]
       try simp only [Act.put]
       try simp only [put_z]
       clear k0 k1 k2 k3 k4 hc5 hf5
       refine wpAnyH_ready (rs := [10]) (by kernel_rfl) (by simp) ?_
       refine AllReadyH.cons rfl (fun K hK => ?_) AllReadyH.nil
       have d4 := HS.out.pat.cell 4
       have f4 := HS.out.pat.frozen 4
       go_simp
       obtain ⟨w9, e9, huu, hsk⟩ := HS.out.kids (.slice (some ⟨g, 0, none⟩) (j + 1) c8)
       rw [e9]
       clear e9
       have HS := Lib.hid hsk
       have HK9 := Lib.hid (HK9.out.near huu (by omega))
       clear hsk huu d4 f4
       refine hK.out _ _ ?_ (fun hHeld => ?_)
       ·
        exact HS.out.box.cell 0
       clear hK K
       try simp only [put_y]
       try simp only [Act.put]
       try simp only [put_z]
       refine wpAnyH_done (by kernel_rfl) ?_ _
       go_wp2_with fail
       go_roundg (n - (j + 1))
       case measure => rw [Hg.out]; omega
       case rel => exact ⟨j + 1, some ⟨g, 0, none⟩, c8, ks ++ [q], y', rfl, by omega, by go_num, HS.out, HK9.out, HG2.out, HL2.out, (kids_step HR.out H0Y.out (termF_err f) HRS.out HZ.out).1, (kids_step HR.out H0Y.out (termF_err f) HRS.out HZ.out).2⟩
      ·
       skip
       have d4 := HS.out.pat.cell 4
       have f4 := HS.out.pat.frozen 4
       go_simp
       obtain ⟨w9, e9, huu, hsk⟩ := HS.out.kids (.slice (some ⟨g, 0, none⟩) (j + 1) c8)
       rw [e9]
       clear e9
       have HS := Lib.hid hsk
       have HK2 := Lib.hid (HK2.out.near huu (by omega))
       have HQ8 := Lib.hid (PtK.upd huu (fun k _ r e => by have := r.1.1; omega) _ _ _ HQ8.out)
       clear hsk huu d4 f4 hc5 hf5
       obtain ⟨g', hg', hc5, hf5⟩ := HK2.out.some_
       injection hg' with hg'; injection hg' with hg'; subst hg'
       refine hK.out _ _ ?_ (fun hHeld => ?_)
       ·
        exact HS.out.box.cell 0
       clear hK K
       try simp only [put_y]
       try simp only [Act.put]
       try simp only [put_z]
       have k0 := hc5 (j * 5) rfl 0 (by decide)
       have k1 := hc5 (j * 5) rfl 1 (by decide)
       have k2 := hc5 (j * 5) rfl 2 (by decide)
       have k3 := hc5 (j * 5) rfl 3 (by decide)
       have k4 := hc5 (j * 5) rfl 4 (by decide)
       rw [Nat.add_zero] at k0
       unfold zs5 at k0 k1 k2 k3 k4
       refine wpAnyH_ready (rs := [8]) (by kernel_rfl) (by simp) ?_
       refine AllReadyH.cons rfl (fun K hK => ?_) AllReadyH.nil
       go_simp
       rw [set5o_eq]
       have HK9 := Lib.hid (HK2.out.fin HQ8.out rfl (o := j * 5) rfl)
       have HS := Lib.hid (HS.out.far (set5o_upd _ _ (j * 5) (.int .i64 q.v) (.int .i64 q.op) (.int .i64 q.imm) (.int .i64 q.iv) (.slice KA q.kids.length kc)) (fun k e => HK2.out.2.2 k (At.some_.2 e)) (fun k e => HS.out.rd.own_ne (Classical.choose_spec HK2.out.2.1).1 k (At.some_.2 e)) hpw)
       refine hK.out _ _ ?_ (fun hHeld => ?_)
       ·
        exact HS.out.box.cell 0
       clear hK K
       try simp only [put_y]
       try simp only [Act.put]
       try simp only [put_z]
       clear k0 k1 k2 k3 k4 hc5 hf5
       refine wpAnyH_done (by kernel_rfl) ?_ _
       go_wp2_with fail
       go_roundg (n - (j + 1))
       case measure => rw [Hg.out]; omega
       case rel => exact ⟨j + 1, some ⟨g, 0, none⟩, c8, ks ++ [q], y', rfl, by omega, by go_num, HS.out, HK9.out, HG2.out, HL2.out, (kids_step HR.out H0Y.out (termF_err f) HRS.out HZ.out).1, (kids_step HR.out H0Y.out (termF_err f) HRS.out HZ.out).2⟩
   | false =>
    have HR2 := Lib.hid (kids_exit HR.out hj HD.out)
    have CE := Lib.hid (rExpect_c HS1.out.rd hyi hLl [41])
    go_wp2_with fail
    refine CE.out.mono ?_
    rintro e w6 ⟨rfl, hy6, hu6⟩
    have HS6 := Lib.hid (HS1.out.call hy6 (fun k hk => .inl ((exp_own _ _).1 hk)) (hu6.mono (fun _ _ e => .inl e)))
    have HK6 := Lib.hid (HK.out.step HS1.out.rd (y' := y.exp L [41]) (hu6.mono (fun _ _ e => .inl e)) (fun k hk => .inl ((exp_own _ _).1 hk)))
    have v0 := HS6.out.pat.cell 0
    have v1 := HS6.out.pat.cell 1
    have v2 := HS6.out.pat.cell 2
    have v3 := HS6.out.pat.cell 3
    have v4 := HS6.out.pat.cell 4
    have hb6 := HS6.out.res
    unfold p0 at hb6
    have z0 := hb6.cell 0
    have z1 := hb6.cell 1
    have z2 := hb6.cell 2
    have z3 := hb6.cell 3
    have z4 := hb6.cell 4
    have zf := hb6.frozen
    have HB6 := Lib.hid hb6
    clear CE hb6 d0 hy6 hu6
    go_wp2_with fail
    rw [set5_eq]
    have us := set5_upd w6 (w.heap.size + 1) (.int .i64 q0.v) (.int .i64 q0.op) (.int .i64 q0.imm) (.int .i64 q0.iv) (.slice Ak j ck)
    have hkl : ks.length = j := HK.out.1.1.symm
    refine bodyPost_ret (results_cell_row rfl _ _ (w.heap.size + 1) 30 _ (0, 0) _ rfl (set5_blk HB6.out _ _ _ _ _) Try.underlying30 rfl (by kernel_rfl)) rfl ?_
    refine ⟨.mk q0.v q0.op q0.imm q0.iv ks, Ak, ck, y.exp L [41], by unfold pv; rw [← hkl]; rfl, ?_, HS6.out.rd.upd us (fun k _ e => ?_), exp_good hL HG1.out, ?_, fun k hk => ?_, ?_, ?_⟩
    ·
     have hne := HS6.out.rd.own_ne (Classical.choose_spec HK6.out.1.2).1
     have hpt : PtK w6 (fun k => w.heap.size + 3 ≤ k ∧ ¬ (y.exp L [41]).own p k) (.mk q0.v q0.op q0.imm q0.iv ks) Ak ck := HK6.out.1.view (fun k hk => ⟨HK6.out.2 k hk, hne k hk⟩) (fun k _ q => q) _ _ _ _
     exact PtK.mono (fun k _ q => ⟨Nat.le_trans (Nat.le_add_right _ _) q.1, q.2⟩) _ _ _ (PtK.upd us (fun k _ q e => by have := q.1; omega) _ _ _ hpt)
    ·
     subst e
     have hn : ¬ (y.exp L [41]).own p (w.heap.size + 1) := fun q => by
      rcases HS6.out.own _ q with r | r
      ·
       have := hown _ r; omega
      ·
       omega
     exact ⟨by omega, fun q => hn (.inr (.inl q)), fun q => hn (.inr (.inr q))⟩
    ·
     rw [exp_left, HL1.out, hl]
    ·
     exact (HS6.out.own k hk).imp_right (fun r => by omega)
    ·
     exact HS6.out.upd.trans us (fun k hk e => by omega)
    ·
     exact app_fin hL h0 HG1.out HR0.out Hn.out.symm HR2.out HZ.out
end Go.Proofs.Ytblkgjdhaibhgaa
namespace Go.Proofs.Ytblkgjdhaibhgaa
open Go.RowKit
theorem rTerm_rec {L : List Tok} {T : List (Bs × Nat)} {fin : Nat} (hL : LOk L T fin) (left : Bool) : ∀ (f : Nat) {w : World} {p : Nat} {A : Option Addr} {c : Nat} {x : St}, RdS w p A c L x → Good T x → x.left = left → x.why = 0 → T.length < x.i + f → Calls Try.prog 42 #[.pointer (some ⟨p, 0, none⟩)] w (TermP T w p A c L x (termF T fin left f (psOf x)))
 | 0, _, _, _, _, x, _, hx, _, _, hf => by have := hx.1; omega
 | f + 1, _, _, _, _, _, h, hx, hl, _, hf => rTerm_c hL left f (fun h1 h2 h3 h4 h5 => rApplication_c hL left f (fun g1 g2 g3 g4 g5 => rTerm_rec hL left f g1 g2 g3 g4 g5) h1 h2 h3 h4 h5) h hx hl (fun _ => hf)
theorem rTerm_any {L : List Tok} {T : List (Bs × Nat)} {fin : Nat} (hL : LOk L T fin) (left : Bool) (f : Nat) {w : World} {p : Nat} {A : Option Addr} {c : Nat} {x : St} (h : RdS w p A c L x) (hx : Good T x) (hl : x.left = left) (hf : x.why = 0 → T.length < x.i + (f + 1)) : Calls Try.prog 42 #[.pointer (some ⟨p, 0, none⟩)] w (TermP T w p A c L x (termF T fin left (f + 1) (psOf x))) :=
 rTerm_c hL left f (fun h1 h2 h3 h4 h5 => rApplication_c hL left f (fun g1 g2 g3 g4 g5 => rTerm_rec hL left f g1 g2 g3 g4 g5) h1 h2 h3 h4 h5) h hx hl hf
end Go.Proofs.Ytblkgjdhaibhgaa
namespace Go.Proofs.Ytblkgjdhaibhgaa
open Go.RowKit
def WrdP {α β : Type} (T : List (Bs × Nat)) (w : World) (p g : Nat) (t : TypeId) (val : β → Array Value) (A : Option Addr) (c : Nat) (L : List Tok) (x : St) (P : α → β → Prop) (r : Except Er (α × PS)) (e : Ending) (w' : World) : Prop :=
 ∃ (k : β) (y : St) (ts : Bs) (tp : Nat), e = .returned (tokVal ts tp) ∧ (y.why = 0 → tkF T x.i = some ts ∧ tp = posT L x.i) ∧ Blk w' g t (val k) ∧ RdS w' p A c L y ∧ Good T y ∧ y.left = x.left ∧ (∀ k, y.own p k → x.own p k ∨ w.heap.size ≤ k) ∧ Upd (fun k => x.own p k ∨ k = g) w w' ∧ ResS x y r (fun v => P v k ∧ x.i + 1 ≤ y.i)
theorem rWordG_c {α β : Type} {L : List Tok} {T : List (Bs × Nat)} {fin : Nat} (hL : LOk L T fin) {w : World} {p : Nat} {A : Option Addr} {c : Nat} {x : St} (h : RdS w p A c L x) (hx : Good T x) (f : FuncId) (cap : Array Value) (hcf : ∀ (args : Array Value) (w : World), (callFunc f args).run Try.prog w = .ok (.enter f args) w)
  {g : Nat} {t : TypeId} (val : β → Array Value) (b0 : β) (hg : Blk w g t (val b0)) (hpg : p < g) (F : Bs → PS → Option (α × PS)) (P : α → β → Prop)
  (hF : ∀ s ps v y, F s ps = some (v, y) → y.vs.length ≤ ps.vs.length + 1 ∧ y.ms.length ≤ ps.ms.length + 1)
  (HF : ∀ s w1, s ≠ [] → s.length ≤ 20000 → x.why = 0 → Upd Non w w1 → Calls Try.prog f (#[.string (kstr s)] ++ cap) w1 (fun e w2 => ∃ (b : Bool) (k : β) (x2 : St), e = .returned (.bool b) ∧ Blk w2 g t (val k) ∧ RdS w2 p A c L x2 ∧ Keeps w1 p x x2 ∧ Upd (fun k => x.own p k ∨ k = g) w1 w2 ∧ (b = true → ∃ v ps, F s (psOf x) = some (v, ps) ∧ P v k ∧ x2.vs = ps.vs ∧ x2.ms = ps.ms) ∧ (b = false → F s (psOf x) = none))) :
  Calls Try.prog 40 #[.pointer (some ⟨p, 0, none⟩), .func (.func f) #[] cap] w (WrdP T w p g t val A c L x P (wrdF T fin F (psOf x))) := by
 have hiL : x.i < L.length := by have := hL.lt; have := hx.1; omega
 have hpos := hL.pos hx.1
 have hgw := hg.lt
 have hown : ∀ j, x.own p j → j < w.heap.size := fun j hj => h.lt hj
 refine (rWord_c h hiL hL.len (hL.ne' hiL hx.1) f cap hcf
  (fun bb x2 w1 w2 => ∃ k, Blk w2 g t (val k) ∧ (∀ k, x2.own p k → x.own p k ∨ w1.heap.size ≤ k) ∧ x2.left = x.left ∧ Upd (fun k => x.own p k ∨ k = g) w1 w2 ∧ (bb = true → ∃ v ps, F L[x.i].s (psOf x) = some (v, ps) ∧ P v k ∧ x2.vs = ps.vs ∧ x2.ms = ps.ms) ∧ (bb = false → F L[x.i].s (psOf x) = none))
  (fun hok w1 u01 => by
   rw [hL.word hx.1, Bool.and_eq_true, beq_iff_eq] at hok
   obtain ⟨sw, hsw⟩ := Option.isSome_iff_exists.1 hok.2
   obtain ⟨f1, f2, f3, f4, f5, f6, f7⟩ := hL.at_ hiL hsw
   refine (HF L[x.i].s w1 (by rw [f1]; exact f3) (by rw [f1]; exact f4) hok.1 u01).mono ?_
   rintro e w2 ⟨b, k, y, rfl, k2, k3, k4, k5, k6, k7⟩
   exact ⟨b, y, rfl, k3, k4.i, k4.why.trans hok.1, k5.mono (fun j _ r => by rcases r with r | r; exact hown _ r; rw [r]; exact hgw), k4.own, k, k2, k4.own, k4.left, k5, k6, k7⟩)).mono ?_
 rintro e w5 hwd
 rcases hwd with ⟨hok, bb, x2, w1, w2, u01, ⟨k, hqb, hqo, hql, hqu, ht, hff⟩, hi2, hw2, _, u2, rfl, hR⟩ | ⟨hok, rfl, hR, hu⟩
 ·
  rw [hL.word hx.1, Bool.and_eq_true, beq_iff_eq] at hok
  obtain ⟨sw, hsw⟩ := Option.isSome_iff_exists.1 hok.2
  obtain ⟨f1, f2, f3, f4, f5, f6, f7⟩ := hL.at_ hiL hsw
  rw [f1] at ht hff
  have hwr : wrdF T fin F (psOf x) = match F sw (psOf x) with | some (a, y) => .ok (a, { y with i := x.i + 1 }) | none => .error (serr T fin x.i) := by
   rw [wrd_eq, show (psOf x).i = x.i from rfl, hsw]
   rfl
  have hqb5 : Blk w5 g t (val k) := hqb.upd u2 (by omega)
  have hu4 : Upd (fun k => x.own p k ∨ k = g ∨ k = w.heap.size) w1 w5 := (hqu.mono (T := fun k => x.own p k ∨ k = g ∨ k = w.heap.size) (fun _ _ h => by rcases h with h | h; exact .inl h; exact .inr (.inl h))).trans u2 (fun _ _ h => by rcases h with h | h; exact .inl (.inl h); exact .inr (.inr h))
  have hu5 : Upd (fun k => x.own p k ∨ k = g) w w5 := (u01.mono (fun _ _ f => f.elim)).trans hu4 (fun k hk q => by
   rcases q with q | q | q
   ·
    exact .inl q
   ·
    exact .inr q
   ·
    omega)
  have ho5 : ∀ k, x2.own p k → x.own p k ∨ w.heap.size ≤ k := fun k hk => (hqo k hk).imp_right (fun r => Nat.le_trans u01.size r)
  cases bb with
  | true =>
   obtain ⟨v, ps, ha, hP, hvs, hms⟩ := ht rfl
   rw [ha] at hwr
   have hgx := hx.2 hok.1
   have hol := hF _ _ _ _ ha
   refine ⟨k, { x2 with i := x.i + 1 }, _, _, rfl, fun _ => ⟨by rw [f1]; exact f6, posT_eq hiL |>.symm⟩, hqb5, hR, ⟨f5, fun _ => ?_⟩, hql, ho5, hu5, fun _ => ?_, fun q => absurd hok.1 q⟩
   ·
    show x2.vs.length ≤ x.i + 1 ∧ x2.ms.length ≤ x.i + 1
    rw [hvs, hms]
    have : (psOf x).vs.length = x.vs.length := rfl
    have : (psOf x).ms.length = x.ms.length := rfl
    omega
   ·
    rw [hwr]
    refine ⟨hw2, ?_, hP, Nat.le_refl _⟩
    show (⟨x.i + 1, x2.vs, x2.ms⟩ : PS) = ⟨x.i + 1, ps.vs, ps.ms⟩
    rw [hvs, hms]
  | false =>
   rw [hff rfl] at hwr
   refine ⟨k, x2.fail 2 (posT L x.i), [], 0, rfl, fun q => ?_, hqb5, hR, Good.fail (by rw [hi2]; omega) (by decide), by rw [fail_left]; exact hql, fun k hk => ho5 k ((fail_own _ _ _ _ _).1 hk), hu5, fun _ => ?_, fun q => absurd hok.1 q⟩
   ·
    rw [fail_zero hw2] at q; exact absurd (show (2 : Int) = 0 from q) (by decide)
   ·
    rw [hwr, fail_zero hw2, hpos]
    exact ⟨rfl, rfl⟩
 ·
  refine ⟨b0, x.fail 2 (posT L x.i), [], 0, rfl, fun q => ?_, hg.upd hu (by omega), hR, Good.fail hx.1 (by decide), fail_left _ _ _, fun k hk => .inl ((fail_own _ _ _ _ _).1 hk), hu.mono (fun _ _ h => .inl (.inl h)), fun h0 => ?_, fun h1 => by rw [fail_why h1]; exact ⟨rfl, rfl⟩⟩
  ·
   by_cases h0 : x.why = 0
   ·
    rw [fail_zero h0] at q; exact absurd (show (2 : Int) = 0 from q) (by decide)
   ·
    rw [fail_why h0] at q; exact absurd q h0
  ·
   rw [hL.word hx.1, h0] at hok
   rw [wrd_eq, show (psOf x).i = x.i from rfl]
   cases hk : wkF T x.i with
   | none =>
    rw [fail_zero h0, hpos]
    exact ⟨rfl, rfl⟩
   | some sw => rw [hk] at hok; cases hok
end Go.Proofs.Ytblkgjdhaibhgaa
namespace Go.Proofs.Ytblkgjdhaibhgaa
open Go.RowKit
def ClsI {α : Type} (w : World) (p g : Nat) (t : TypeId) (A : Option Addr) (c : Nat) (L : List Tok) (x : St) (o : Option (α × PS)) (P : α → Int → Prop) (e : Ending) (w' : World) : Prop :=
 ∃ (b : Bool) (k : Int) (x2 : St), e = .returned (.bool b) ∧ Blk w' g t #[.int .i64 k] ∧ RdS w' p A c L x2 ∧ Keeps w p x x2 ∧ Upd (fun k => x.own p k ∨ k = g) w w' ∧ (b = true → ∃ v ps, o = some (v, ps) ∧ P v k ∧ x2.vs = ps.vs ∧ x2.ms = ps.ms) ∧ (b = false → o = none)
set_option maxRecDepth 100000 in
set_option maxHeartbeats 4000000 in
theorem rNumber1_c {w : World} {p g : Nat} {A : Option Addr} {c : Nat} {L : List Tok} {x : St} (h : RdS w p A c L x) (s : Bs) (hs : s.length ≤ 1000000) (k0 : Int) (hg : Blk w g 2 #[.int .i64 k0]) (hgo : ¬ x.own p g) (hpg : p < g) :
  Calls Try.prog 85 #[.string (kstr s), .pointer (some ⟨g, 0, none⟩)] w (ClsI w p g 2 A c L x ((decF s).map fun n => (n, psOf x)) (fun v k => v = k)) := by
 have CW := Lib.hid (wParse_c s w hs)
 obtain ⟨o, Ho⟩ := nm (decF s)
 rw [Ho.out] at CW ⊢
 obtain ⟨str, Hstr⟩ := nm (kstr s)
 rw [Hstr.out] at CW ⊢
 obtain ⟨n, Hn⟩ := nm (o.getD 0)
 obtain ⟨b, Hb⟩ := nm o.isSome
 rw [Hn.out, Hb.out] at CW
 have y0 := hg.cell 0
 have f0 := hg.frozen 0
 have H := Lib.hid h
 have HG := Lib.hid hg
 clear h hg
 go_enter Try.func85, Try.ntmps85
 go_wp2_with fail
 refine CW.out.mono ?_
 rintro e w1 ⟨rfl, rfl⟩
 go_wp2_with fail
 go_ret
 have us := updCell w1 g 0 (.int .i64 n)
 refine ⟨b, n, x, rfl, by simpa using HG.out.set_ 0 (.int .i64 n), H.out.upd us (fun k _ e => by subst e; exact ⟨hpg, fun r => hgo (.inr (.inl r)), fun r => hgo (.inr (.inr r))⟩), Keeps.refl, us.mono (fun _ _ q => .inr q), fun q => ?_, fun q => ?_⟩
 ·
  cases o with
  | none => rw [← Hb.out] at q; cases q
  | some m => exact ⟨m, psOf x, rfl, Hn.out, rfl, rfl⟩
 ·
  cases o with
  | none => rfl
  | some m => rw [← Hb.out] at q; cases q
theorem varF_right (s : Bs) (c : Nat) (l : Bs) : (varF s c l false).2 = l := by
 unfold varF
 split
 ·
  split
  ·
   unfold lookF
   split
   ·
    rfl
   ·
    split
    ·
     rename_i h; cases h
    ·
     rfl
  ·
   rfl
 ·
  rfl
set_option maxRecDepth 100000 in
set_option maxHeartbeats 4000000 in
theorem rPatternVar1_c {w : World} {p g bx : Nat} {A : Option Addr} {c : Nat} {L : List Tok} {x : St} (h : RdS w p A c L x) (hl : x.left = false) (hv : x.vs.length ≤ 100000) (s : Bs) (hs : s.length ≤ 1000000) (k0 : Int) (hg : Blk w g 3 #[.int .i64 k0]) (hx : Blk w bx 53 #[.pointer (some ⟨p, 0, none⟩)]) (hgo : ¬ x.own p g) (hxo : ¬ x.own p bx) (hpg : p < g) :
  Calls Try.prog 84 #[.string (kstr s), .pointer (some ⟨bx, 0, none⟩), .pointer (some ⟨g, 0, none⟩)] w (ClsI w p g 3 A c L x (if 0 < (varF s 63 (psOf x).vs false).1 then some ((varF s 63 (psOf x).vs false).1, psOf x) else none) (fun (v : Nat) k => k = (v : Int))) := by
 have CV := Lib.hid (fun w' (hy : RdS w' p A c L x) => rVarV_c hy hv s 63 hs)
 rw [show ((63 : UInt8).toNat : Int) = 63 from rfl, show (63 : UInt8).toNat = 63 from rfl, hl, varF_right] at CV
 rw [show (psOf x).vs = x.vs from rfl]
 obtain ⟨V, HV⟩ := nm (varF s 63 x.vs false).1
 rw [HV.out] at CV ⊢
 obtain ⟨str, Hstr⟩ := nm (kstr s)
 rw [Hstr.out] at CV ⊢
 have d0 := hx.cell 0
 have HX := Lib.hid hx
 have HG := Lib.hid hg
 obtain ⟨wD, HwD⟩ := nm w.drew
 have uD : Upd Non w wD := by rw [← HwD.out]; exact Upd.refl.drew
 have C1 := Lib.hid (CV.out wD (h.non uD))
 clear h hg hx
 go_enter Try.func84, Try.ntmps84
 go_upto_region 1 with fail
 refine wp_region_held_drew (S := fun w' => w'.cell? ⟨bx, 0, none⟩ = some (.pointer (some ⟨p, 0, none⟩))) (by kernel_rfl) (by rw [HwD.out]; exact cell_upd d0 uD (fun f => f)) (fun hHeld => ?_)
 rw [HwD.out] at hHeld ⊢
 refine wpT 0 ?_
 try simp only [put_y]
 try simp only [Act.put]
 try simp only [put_z]
 refine wpT 1 ?_
 try simp only [put_y]
 try simp only [Act.put]
 try simp only [put_z]
 refine wpT 2 ?_
 try simp only [put_y]
 try simp only [Act.put]
 try simp only [put_z]
 refine wpT 3 ?_
 try simp only [put_y]
 try simp only [Act.put]
 try simp only [put_z]
 refine wpT 4 ?_
 try simp only [put_y]
 try simp only [Act.put]
 try simp only [put_z]
 refine wpAnyH_ready (rs := [5]) (by kernel_rfl) (by simp) ?_
 refine AllReadyH.cons rfl (fun K hK => ?_) AllReadyH.nil
 go_simp
 refine C1.out.mono ?_
 rintro e w2 ⟨rfl, y, hy, hy1, hy2, hk, hu⟩
 go_wp2_with fail
 have d2 := cell_upd (cell_upd d0 uD (fun f => f)) hu hxo
 refine hK.out _ _ ?_ (fun hHeld => ?_)
 ·
  exact d2
 clear hK K
 try simp only [put_y]
 try simp only [Act.put]
 try simp only [put_z]
 have hg2 := (HG.out.upd uD (fun f => f)).upd hu hgo
 have y0 := hg2.cell 0
 have f0 := hg2.frozen 0
 have HY := Lib.hid hy
 have HK := Lib.hid hk
 have HU := Lib.hid hu
 have HG2 := Lib.hid hg2
 have H1 := Lib.hid hy1
 have H2 := Lib.hid hy2
 clear hy hk hu hg2 hy1 hy2
 refine wpAnyH_ready (rs := [6]) (by kernel_rfl) (by simp) ?_
 refine AllReadyH.cons rfl (fun K hK => ?_) AllReadyH.nil
 go_simp
 have us := updCell w2 g 0 (.int .i64 (V : Int))
 have hb3 : Blk (w2.setCell ⟨g, 0, none⟩ (.int .i64 (V : Int))) g 3 #[.int .i64 (V : Int)] := by simpa using HG2.out.set_ 0 (.int .i64 (V : Int))
 have hgb : bx ≠ g := (((HX.out.upd uD (fun f => f)).upd HU.out hxo).ne_ HG2.out (by decide))
 refine hK.out _ _ ?_ (fun hHeld => ?_)
 ·
  exact cell_upd d2 us hgb
 clear hK K
 try simp only [put_y]
 try simp only [Act.put]
 try simp only [put_z]
 refine wpAnyH_done (by kernel_rfl) ?_ _
 have y1 := hb3.cell 0
 have HB3 := Lib.hid hb3
 clear hb3 y0 f0 d2 d0 hHeld
 have hyo : ¬ y.own p g := fun q => by
  rcases HK.out.own g q with r | r
  ·
   exact hgo r
  ·
   have := HG.out.lt; have := uD.size; omega
 have HYO := Lib.hid hyo
 clear hyo
 by_cases hp : 0 < V
 ·
  have fp : decide ((0 : Int) < (V : Int)) = true := decide_eq_true (by omega)
  go_wp2_with fail
  go_ret
  refine ⟨_, V, y, rfl, HB3.out, HY.out.upd us (fun k _ e => by subst e; exact ⟨hpg, fun r => HYO.out (.inr (.inl r)), fun r => HYO.out (.inr (.inr r))⟩), ⟨HK.out.i, HK.out.why, HK.out.ea, HK.out.left, fun j hj => (HK.out.own j hj).imp_right (fun q => Nat.le_trans uD.size q)⟩, ((uD.mono (fun _ _ f => f.elim)).trans HU.out (fun _ _ q => .inl q)).trans us (fun _ _ q => .inr q), fun q => ?_, fun q => ?_⟩
  ·
   exact ⟨V, psOf x, rfl, rfl, H1.out, H2.out⟩
  ·
   cases q
 ·
  have fp : decide ((0 : Int) < (V : Int)) = false := decide_eq_false (by omega)
  have HP := Lib.hid hp
  clear hp
  go_wp2_with fail
  go_ret
  refine ⟨_, V, y, rfl, HB3.out, HY.out.upd us (fun k _ e => by subst e; exact ⟨hpg, fun r => HYO.out (.inr (.inl r)), fun r => HYO.out (.inr (.inr r))⟩), ⟨HK.out.i, HK.out.why, HK.out.ea, HK.out.left, fun j hj => (HK.out.own j hj).imp_right (fun q => Nat.le_trans uD.size q)⟩, ((uD.mono (fun _ _ f => f.elim)).trans HU.out (fun _ _ q => .inl q)).trans us (fun _ _ q => .inr q), fun q => ?_, fun q => ?_⟩
  ·
   cases q
  ·
   rfl
def IntP {α : Type} (T : List (Bs × Nat)) (w : World) (p : Nat) (A : Option Addr) (c : Nat) (L : List Tok) (x : St) (r : Except Er (α × PS)) (P : α → Int → Prop) (e : Ending) (w' : World) : Prop :=
 ∃ (k : Int) (y : St), e = .returned (.int .i64 k) ∧ RdS w' p A c L y ∧ Good T y ∧ y.left = x.left ∧ (∀ k, y.own p k → x.own p k ∨ w.heap.size ≤ k) ∧ Upd (x.own p) w w' ∧ ResS x y r (fun v => P v k ∧ x.i + 1 ≤ y.i)
theorem hcfN : ∀ (args : Array Value) (w : World), (callFunc 85 args).run Try.prog w = .ok (.enter 85 args) w := fun args w => by
 simp [callFunc, Try.func85, Try.f85]
theorem hcfV : ∀ (args : Array Value) (w : World), (callFunc 84 args).run Try.prog w = .ok (.enter 84 args) w := fun args w => by
 simp [callFunc, Try.func84, Try.f84]
set_option maxRecDepth 100000 in
set_option maxHeartbeats 4000000 in
theorem rNumber_c {L : List Tok} {T : List (Bs × Nat)} {fin : Nat} (hL : LOk L T fin) {w : World} {p : Nat} {A : Option Addr} {c : Nat} {x : St} (h : RdS w p A c L x) (hx : Good T x) :
  Calls Try.prog 70 #[.pointer (some ⟨p, 0, none⟩)] w (IntP T w p A c L x (numbF T fin (psOf x)) (fun v k => v = k)) := by
 obtain ⟨W1, HW1⟩ := nm (w.alloc (.cells #[.int .i64 0] 2))
 have u1 : Upd Non w W1 := by rw [← HW1.out]; exact Upd.refl.alloc _
 have b1 : Blk W1 w.heap.size 2 #[.int .i64 0] := by rw [← HW1.out]; exact Blk.new _ _ _
 have hpw : p < w.heap.size := h.blk.lt
 have hown : ∀ j, x.own p j → j < w.heap.size := fun j hj => h.lt hj
 have y0 := b1.cell 0
 have f0 := b1.frozen 0
 obtain ⟨W2, HW2⟩ := nm (W1.setCell ⟨w.heap.size, 0, none⟩ (.int .i64 0))
 have b2 : Blk W2 w.heap.size 2 #[.int .i64 0] := by rw [← HW2.out]; simpa using b1.set_ 0 (.int .i64 0)
 have u2 : Upd Non w W2 := u1.trans (by rw [← HW2.out]; exact updCell _ _ _ _) (fun i hi e => by omega)
 have e1 := HW1.out
 have e2 := HW2.out
 have s2 := u2.size
 have h1 := h.non u2
 have CW := Lib.hid (rWordG_c hL h1 hx 85 #[.pointer (some ⟨w.heap.size, 0, none⟩)] hcfN (fun k : Int => #[.int .i64 k]) 0 b2 hpw (fun s y => (decF s).map fun n => (n, y)) (fun v k => v = k)
  (fun s ps v y q => by
   cases hd : decF s with
   | none => rw [hd] at q; cases q
   | some n => rw [hd] at q; simp only [Option.map_some] at q; injection q with q; injection q with _ q; subst q; exact ⟨Nat.le_succ _, Nat.le_succ _⟩)
  (fun s w1 _ hs _ u01 => rNumber1_c (h1.non u01) s (by omega) 0 (b2.upd u01 (fun f => f)) (fun q => by have := hown _ q; omega) hpw))
 have HU2 := Lib.hid u2
 clear h h1 b1 b2 u1 u2
 go_enter Try.func70, Try.ntmps70
 go_wp2_with fail
 refine CW.out.mono ?_
 rintro e w3 hw3
 have HW3 := Lib.hid hw3
 clear hw3 CW y0 f0 e1 e2
 obtain ⟨k, y, ts, tp, ev, _, hb3, hy3, hg3, hl3, ho3, hu3, hr3⟩ := HW3.out
 subst ev
 have y1 := hb3.cell 0
 have HY := Lib.hid hy3
 have HG := Lib.hid hg3
 have HL := Lib.hid hl3
 have HO := Lib.hid ho3
 have HU := Lib.hid hu3
 have HR := Lib.hid hr3
 clear hb3 hy3 hg3 hl3 ho3 hu3 hr3 HW3
 go_wp2_with fail
 go_ret
 exact ⟨k, y, rfl, HY.out, HG.out, HL.out, fun j hj => (HO.out j hj).imp_right (fun q => by omega), (HU2.out.mono (fun _ _ f => f.elim)).trans HU.out (fun j hj q => by rcases q with q | q; exact q; omega), HR.out⟩
set_option maxRecDepth 100000 in
set_option maxHeartbeats 4000000 in
theorem rPatternVar_c {L : List Tok} {T : List (Bs × Nat)} {fin : Nat} (hL : LOk L T fin) {w : World} {p : Nat} {A : Option Addr} {c : Nat} {x : St} (h : RdS w p A c L x) (hx : Good T x) (hlf : x.left = false) :
  Calls Try.prog 69 #[.pointer (some ⟨p, 0, none⟩)] w (IntP T w p A c L x (pvarF T fin (psOf x)) (fun (v : Nat) k => k = (v : Int))) := by
 obtain ⟨W0, HW0⟩ := nm (w.alloc (.cells #[.pointer (some ⟨p, 0, none⟩)] 53))
 have u0 : Upd Non w W0 := by rw [← HW0.out]; exact Upd.refl.alloc _
 have b0 : Blk W0 w.heap.size 53 #[.pointer (some ⟨p, 0, none⟩)] := by rw [← HW0.out]; exact Blk.new _ _ _
 have s0 : W0.heap.size = w.heap.size + 1 := by rw [← HW0.out]; simp
 obtain ⟨W1, HW1⟩ := nm (W0.alloc (.cells #[.int .i64 0] 3))
 have u1 : Upd Non W0 W1 := by rw [← HW1.out]; exact Upd.refl.alloc _
 have b1 : Blk W1 (w.heap.size + 1) 3 #[.int .i64 0] := by rw [← HW1.out, ← s0]; exact Blk.new _ _ _
 have s1 : W1.heap.size = w.heap.size + 2 := by rw [← HW1.out]; simp [s0]
 have hpw : p < w.heap.size := h.blk.lt
 have hown : ∀ j, x.own p j → j < w.heap.size := fun j hj => h.lt hj
 have y0 := b1.cell 0
 have f0 := b1.frozen 0
 obtain ⟨W2, HW2⟩ := nm (W1.setCell ⟨w.heap.size + 1, 0, none⟩ (.int .i64 0))
 have b2 : Blk W2 (w.heap.size + 1) 3 #[.int .i64 0] := by rw [← HW2.out]; simpa using b1.set_ 0 (.int .i64 0)
 have u2 : Upd (· = w.heap.size + 1) W1 W2 := by rw [← HW2.out]; exact updCell _ _ _ _
 have bb : Blk W2 w.heap.size 53 #[.pointer (some ⟨p, 0, none⟩)] := (b0.upd u1 (fun f => f)).upd u2 (by omega)
 have u2 : Upd Non w W2 := (u0.then_non u1).trans u2 (fun i hi e => by omega)
 have e0 := HW0.out
 have e1 := HW1.out
 have e2 := HW2.out
 have s2 := u2.size
 have h1 := h.non u2
 have d0 := bb.cell 0
 have CW : Hid (x.why = 0 → x.vs.length ≤ 100000) := fun q => by have := hx.2 q; have := hx.1; have := hL.lt; have := hL.len; omega
 have CW := Lib.hid (rWordG_c hL h1 hx 84 #[.pointer (some ⟨w.heap.size, 0, none⟩), .pointer (some ⟨w.heap.size + 1, 0, none⟩)] hcfV (fun k : Int => #[.int .i64 k]) 0 b2 (by omega) (fun s y => if 0 < (varF s 63 y.vs false).1 then some ((varF s 63 y.vs false).1, y) else none) (fun (v : Nat) k => k = (v : Int))
  (fun s ps v y q => by
   split at q
   ·
    injection q with q; injection q with _ q; subst q; exact ⟨Nat.le_succ _, Nat.le_succ _⟩
   ·
    cases q)
  (fun s w1 _ hs h00 u01 => rPatternVar1_c (h1.non u01) hlf (CW.out h00) s (by omega) 0 (b2.upd u01 (fun f => f)) (bb.upd u01 (fun f => f)) (fun q => by have := hown _ q; omega) (fun q => by have := hown _ q; omega) (by omega)))
 have HU2 := Lib.hid u2
 clear h h1 b0 b1 b2 bb u0 u1 u2
 go_enter Try.func69, Try.ntmps69
 go_wp2_with fail
 refine CW.out.mono ?_
 rintro e w3 hw3
 have HW3 := Lib.hid hw3
 clear hw3 CW y0 f0 e0 e1 e2 d0
 obtain ⟨k, y, ts, tp, ev, _, hb3, hy3, hg3, hl3, ho3, hu3, hr3⟩ := HW3.out
 subst ev
 have y1 := hb3.cell 0
 have HY := Lib.hid hy3
 have HG := Lib.hid hg3
 have HL := Lib.hid hl3
 have HO := Lib.hid ho3
 have HU := Lib.hid hu3
 have HR := Lib.hid hr3
 clear hb3 hy3 hg3 hl3 ho3 hu3 hr3 HW3
 go_wp2_with fail
 go_ret
 exact ⟨k, y, rfl, HY.out, HG.out, HL.out, fun j hj => (HO.out j hj).imp_right (fun q => by omega), (HU2.out.mono (fun _ _ f => f.elim)).trans HU.out (fun j hj q => by rcases q with q | q; exact q; omega), HR.out⟩
theorem lookF_right (l : Bs) (c : UInt8) : (lookF l c false).2 = l := by
 unfold lookF
 split
 ·
  rfl
 ·
  split
  ·
   rename_i h; cases h
  ·
   rfl
def ivF (s : Bs) (x : PS) : Option (Nat × PS) := match s with
 | [c] => if isLw c = true ∧ 0 < (lookF x.ms c false).1 then some ((lookF x.ms c false).1, x) else none
 | _ => none
theorem ivF_none {s : Bs} (h : s.length ≠ 1) (x : PS) : ivF s x = none := by
 unfold ivF
 split
 ·
  simp at h
 ·
  rfl
set_option maxRecDepth 100000 in
set_option maxHeartbeats 4000000 in
theorem rImmVar1_c {w : World} {p g bx : Nat} {A : Option Addr} {c : Nat} {L : List Tok} {x : St} (h : RdS w p A c L x) (hv : x.ms.length ≤ 100000) (s : Bs) (hs : s.length ≤ 1000000) (hg : Blk w g 3 #[.int .i64 0]) (hx : Blk w bx 53 #[.pointer (some ⟨p, 0, none⟩)]) (hgo : ¬ x.own p g) (hxo : ¬ x.own p bx) (hpg : p < g) :
  Calls Try.prog 83 #[.string (kstr s), .pointer (some ⟨bx, 0, none⟩), .pointer (some ⟨g, 0, none⟩)] w (ClsI w p g 3 A c L x (ivF s (psOf x)) (fun (v : Nat) k => k = (v : Int))) := by
 have hz : (kstr s).size = s.length := kstr_size s
 have d0 := hx.cell 0
 have y0 := hg.cell 0
 have f0 := hg.frozen 0
 have HX := Lib.hid hx
 have HG := Lib.hid hg
 have H := Lib.hid h
 have fz : decide ((0 : Int) < 0) = false := by decide
 clear h hx hg
 by_cases h1 : s.length = 1
 ·
  match s, h1 with
  | [ch], _ =>
   have i0 := fun W => run_at_str hz (show 0 < 1 by omega) W
   rw [kx_kstr, show ([ch] : Bs).getD 0 0 = ch from rfl, show ((0 : Nat) : Int) = 0 from rfl] at i0
   rw [show ([ch] : Bs).length = 1 from rfl] at hz
   have HV : Hid (ivF [ch] (psOf x) = if isLw ch = true ∧ 0 < (lookF x.ms ch false).1 then some ((lookF x.ms ch false).1, psOf x) else none) := rfl
   obtain ⟨str, Hstr⟩ := nm (kstr [ch])
   rw [Hstr.out] at hz i0 ⊢
   rw [HV.out]
   have CL := Lib.hid (rIsLower_c ch w)
   obtain ⟨lw, Hlw⟩ := nm (isLw ch)
   rw [Hlw.out] at CL ⊢
   cases lw with
   | false =>
    rw [if_neg (fun q => by cases q.1)]
    clear HV
    go_enter Try.func83, Try.ntmps83
    go_wp2_with fail
    refine CL.out.mono ?_
    rintro e w1 ⟨rfl, rfl⟩
    go_wp2_with fail
    go_ret
    exact ⟨false, 0, x, rfl, HG.out, H.out, Keeps.refl, Upd.refl, (fun q => by cases q), (fun _ => rfl)⟩
   | true =>
    obtain ⟨V, HVV⟩ := nm (lookF x.ms ch false).1
    have hnv := lookF_right x.ms ch
    obtain ⟨wD, HwD⟩ := nm w.drew
    have uD : Upd Non w wD := by rw [← HwD.out]; exact Upd.refl.drew
    have C1 := Lib.hid (rLookM_c (H.out.non uD) hv ch false)
    rw [HVV.out, hnv] at C1
    rw [HVV.out]
    obtain ⟨o, Ho⟩ := nm (if true = true ∧ 0 < V then some (V, psOf x) else none)
    rw [Ho.out]
    clear HV hnv
    go_enter Try.func83, Try.ntmps83
    go_wp2_with fail
    refine CL.out.mono ?_
    rintro e w1 ⟨rfl, rfl⟩
    go_upto_region 2 with fail
    refine wp_region_held_drew (S := fun w' => w'.cell? ⟨bx, 0, none⟩ = some (.pointer (some ⟨p, 0, none⟩))) (by kernel_rfl) (by rw [HwD.out]; exact cell_upd d0 uD (fun f => f)) (fun hHeld => ?_)
    rw [HwD.out] at hHeld ⊢
    refine wpT 0 ?_
    try simp only [put_y]
    try simp only [Act.put]
    try simp only [put_z]
    refine wpT 1 ?_
    try simp only [put_y]
    try simp only [Act.put]
    try simp only [put_z]
    refine wpT 2 ?_
    try simp only [put_y]
    try simp only [Act.put]
    try simp only [put_z]
    refine wpT 3 ?_
    try simp only [put_y]
    try simp only [Act.put]
    try simp only [put_z]
    refine wpT 4 ?_
    try simp only [put_y]
    try simp only [Act.put]
    try simp only [put_z]
    refine wpAnyH_ready (rs := [5]) (by kernel_rfl) (by simp) ?_
    refine AllReadyH.cons rfl (fun K hK => ?_) AllReadyH.nil
    go_simp
    refine C1.out.mono ?_
    rintro e w2 ⟨rfl, y, hy, hy1, hy2, hk, hu⟩
    go_wp2_with fail
    have d2 := cell_upd (cell_upd d0 uD (fun f => f)) hu hxo
    refine hK.out _ _ ?_ (fun hHeld => ?_)
    ·
     exact d2
    clear hK K
    try simp only [put_y]
    try simp only [Act.put]
    try simp only [put_z]
    have hg2 := (HG.out.upd uD (fun f => f)).upd hu hgo
    have k0 := hg2.cell 0
    have f2 := hg2.frozen 0
    have HY := Lib.hid hy
    have HK := Lib.hid hk
    have HU := Lib.hid hu
    have HG2 := Lib.hid hg2
    have H1 := Lib.hid hy1
    have H2 := Lib.hid hy2
    clear hy hk hu hg2 hy1 hy2 y0 f0
    refine wpAnyH_ready (rs := [6]) (by kernel_rfl) (by simp) ?_
    refine AllReadyH.cons rfl (fun K hK => ?_) AllReadyH.nil
    go_simp
    have us := updCell w2 g 0 (.int .i64 (V : Int))
    have hb3 : Blk (w2.setCell ⟨g, 0, none⟩ (.int .i64 (V : Int))) g 3 #[.int .i64 (V : Int)] := by simpa using HG2.out.set_ 0 (.int .i64 (V : Int))
    have hgb : bx ≠ g := (((HX.out.upd uD (fun f => f)).upd HU.out hxo).ne_ HG2.out (by decide))
    refine hK.out _ _ ?_ (fun hHeld => ?_)
    ·
     exact cell_upd d2 us hgb
    clear hK K
    try simp only [put_y]
    try simp only [Act.put]
    try simp only [put_z]
    refine wpAnyH_done (by kernel_rfl) ?_ _
    have y1 := hb3.cell 0
    have HB3 := Lib.hid hb3
    clear hb3 k0 f2 d2 d0 hHeld
    have hyo : ¬ y.own p g := fun q => by
     rcases HK.out.own g q with r | r
     ·
      exact hgo r
     ·
      have := HG.out.lt; have := uD.size; omega
    have HYO := Lib.hid hyo
    clear hyo
    by_cases hp : 0 < V
    ·
     have fp : decide ((0 : Int) < (V : Int)) = true := decide_eq_true (by omega)
     go_wp2_with fail
     go_ret
     refine ⟨_, V, y, rfl, HB3.out, HY.out.upd us (fun k _ e => by subst e; exact ⟨hpg, fun r => HYO.out (.inr (.inl r)), fun r => HYO.out (.inr (.inr r))⟩), ⟨HK.out.i, HK.out.why, HK.out.ea, HK.out.left, fun j hj => (HK.out.own j hj).imp_right (fun q => Nat.le_trans uD.size q)⟩, ((uD.mono (fun _ _ f => f.elim)).trans HU.out (fun _ _ q => .inl q)).trans us (fun _ _ q => .inr q), fun q => ?_, fun q => ?_⟩
     ·
      exact ⟨V, psOf x, by rw [← Ho.out, if_pos ⟨trivial, hp⟩], rfl, H2.out, H1.out⟩
     ·
      cases q
    ·
     have fp : decide ((0 : Int) < (V : Int)) = false := decide_eq_false (by omega)
     have HP := Lib.hid hp
     clear hp
     go_wp2_with fail
     go_ret
     refine ⟨false, V, y, by rw [decide_eq_false HP.out]; rfl, HB3.out, HY.out.upd us (fun k _ e => by subst e; exact ⟨hpg, fun r => HYO.out (.inr (.inl r)), fun r => HYO.out (.inr (.inr r))⟩), ⟨HK.out.i, HK.out.why, HK.out.ea, HK.out.left, fun j hj => (HK.out.own j hj).imp_right (fun q => Nat.le_trans uD.size q)⟩, ((uD.mono (fun _ _ f => f.elim)).trans HU.out (fun _ _ q => .inl q)).trans us (fun _ _ q => .inr q), fun q => ?_, fun q => ?_⟩
     ·
      cases q
     ·
      rw [← Ho.out, if_neg (fun q => HP.out q.2)]
 ·
  rw [ivF_none h1]
  have fl : (((s.length : Nat) : Int) == 1) = false := by simp; omega
  obtain ⟨str, Hstr⟩ := nm (kstr s)
  rw [Hstr.out] at hz ⊢
  obtain ⟨n, Hn⟩ := nm s.length
  rw [Hn.out] at hz fl
  have HN := Lib.hid h1
  clear h1
  go_enter Try.func83, Try.ntmps83
  go_wp2_with fail
  go_ret
  exact ⟨false, 0, x, rfl, HG.out, H.out, Keeps.refl, Upd.refl, (fun q => by cases q), (fun _ => rfl)⟩
theorem hcfI : ∀ (args : Array Value) (w : World), (callFunc 83 args).run Try.prog w = .ok (.enter 83 args) w := fun args w => by
 simp [callFunc, Try.func83, Try.f83]
set_option maxRecDepth 100000 in
set_option maxHeartbeats 4000000 in
theorem rImmVar_c {L : List Tok} {T : List (Bs × Nat)} {fin : Nat} (hL : LOk L T fin) {w : World} {p : Nat} {A : Option Addr} {c : Nat} {x : St} (h : RdS w p A c L x) (hx : Good T x) :
  Calls Try.prog 68 #[.pointer (some ⟨p, 0, none⟩)] w (IntP T w p A c L x (ivarF T fin (psOf x)) (fun (v : Nat) k => k = (v : Int))) := by
 obtain ⟨W0, HW0⟩ := nm (w.alloc (.cells #[.pointer (some ⟨p, 0, none⟩)] 53))
 have u0 : Upd Non w W0 := by rw [← HW0.out]; exact Upd.refl.alloc _
 have b0 : Blk W0 w.heap.size 53 #[.pointer (some ⟨p, 0, none⟩)] := by rw [← HW0.out]; exact Blk.new _ _ _
 have s0 : W0.heap.size = w.heap.size + 1 := by rw [← HW0.out]; simp
 obtain ⟨W1, HW1⟩ := nm (W0.alloc (.cells #[.int .i64 0] 3))
 have u1 : Upd Non W0 W1 := by rw [← HW1.out]; exact Upd.refl.alloc _
 have b1 : Blk W1 (w.heap.size + 1) 3 #[.int .i64 0] := by rw [← HW1.out, ← s0]; exact Blk.new _ _ _
 have s1 : W1.heap.size = w.heap.size + 2 := by rw [← HW1.out]; simp [s0]
 have hpw : p < w.heap.size := h.blk.lt
 have hown : ∀ j, x.own p j → j < w.heap.size := fun j hj => h.lt hj
 have y0 := b1.cell 0
 have f0 := b1.frozen 0
 obtain ⟨W2, HW2⟩ := nm (W1.setCell ⟨w.heap.size + 1, 0, none⟩ (.int .i64 0))
 have b2 : Blk W2 (w.heap.size + 1) 3 #[.int .i64 0] := by rw [← HW2.out]; simpa using b1.set_ 0 (.int .i64 0)
 have u2 : Upd (· = w.heap.size + 1) W1 W2 := by rw [← HW2.out]; exact updCell _ _ _ _
 have bb : Blk W2 w.heap.size 53 #[.pointer (some ⟨p, 0, none⟩)] := (b0.upd u1 (fun f => f)).upd u2 (by omega)
 have u2 : Upd Non w W2 := (u0.then_non u1).trans u2 (fun i hi e => by omega)
 have e0 := HW0.out
 have e1 := HW1.out
 have e2 := HW2.out
 have s2 := u2.size
 have h1 := h.non u2
 have d0 := bb.cell 0
 have CW : Hid (x.why = 0 → x.ms.length ≤ 100000) := fun q => by have := hx.2 q; have := hx.1; have := hL.lt; have := hL.len; omega
 have CW := Lib.hid (rWordG_c hL h1 hx 83 #[.pointer (some ⟨w.heap.size, 0, none⟩), .pointer (some ⟨w.heap.size + 1, 0, none⟩)] hcfI (fun k : Int => #[.int .i64 k]) 0 b2 (by omega) ivF (fun (v : Nat) k => k = (v : Int))
  (fun s ps v y q => by
   unfold ivF at q
   split at q
   ·
    split at q
    ·
     injection q with q; injection q with _ q; subst q; exact ⟨Nat.le_succ _, Nat.le_succ _⟩
    ·
     cases q
   ·
    cases q)
  (fun s w1 _ hs h00 u01 => rImmVar1_c (h1.non u01) (CW.out h00) s (by omega) (b2.upd u01 (fun f => f)) (bb.upd u01 (fun f => f)) (fun q => by have := hown _ q; omega) (fun q => by have := hown _ q; omega) (by omega)))
 have HU2 := Lib.hid u2
 clear h h1 b0 b1 b2 bb u0 u1 u2
 go_enter Try.func68, Try.ntmps68
 go_wp2_with fail
 refine CW.out.mono ?_
 rintro e w3 hw3
 have HW3 := Lib.hid hw3
 clear hw3 CW y0 f0 e0 e1 e2 d0
 obtain ⟨k, y, ts, tp, ev, _, hb3, hy3, hg3, hl3, ho3, hu3, hr3⟩ := HW3.out
 subst ev
 have y1 := hb3.cell 0
 have HY := Lib.hid hy3
 have HG := Lib.hid hg3
 have HL := Lib.hid hl3
 have HO := Lib.hid ho3
 have HU := Lib.hid hu3
 have HR := Lib.hid hr3
 clear hb3 hy3 hg3 hl3 ho3 hu3 hr3 HW3
 go_wp2_with fail
 go_ret
 exact ⟨k, y, rfl, HY.out, HG.out, HL.out, fun j hj => (HO.out j hj).imp_right (fun q => by omega), (HU2.out.mono (fun _ _ f => f.elim)).trans HU.out (fun j hj q => by rcases q with q | q; exact q; omega), HR.out⟩
end Go.Proofs.Ytblkgjdhaibhgaa
