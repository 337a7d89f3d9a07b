/-
  In a region that draws its order a load may be taken first if what can come ahead of it writes no old memory. No condition of its own.
-/
import Derived.Test.YtblkgjdhaibhgaaBase
namespace Go.Proofs.Ytblkgjdhaibhgaa

/-- What only reads, makes and draws. -/
def Mild {α : Type} : Sem α → Prop
  | .pure _ => True
  | .load _ _ k => ∀ v, Mild (k v)
  | .store .. => False
  | .new _ k => ∀ r, Mild (k r)
  | .shape _ k => ∀ s, Mild (k s)
  | .freeze .. => False
  | .frozen _ k => ∀ b, Mild (k b)
  | .getObj _ k => ∀ o, Mild (k o)
  | .setObj .. => False
  | .choose _ k => ∀ n, Mild (k n)
  | .sys .. => False
  | .program k => ∀ p, Mild (k p)
  | .mark _ k => Mild k
  | .halt _ => True

theorem Mild.bind_ {α β : Type} {f : α → Sem β} (hf : ∀ a, Mild (f a)) : ∀ (s : Sem α), Mild s → Mild (s.bind f)
  | .pure a, _ => hf a
  | .load _ _ k, h => fun v => Mild.bind_ hf (k v) (h v)
  | .new _ k, h => fun v => Mild.bind_ hf (k v) (h v)
  | .shape _ k, h => fun v => Mild.bind_ hf (k v) (h v)
  | .frozen _ k, h => fun v => Mild.bind_ hf (k v) (h v)
  | .getObj _ k, h => fun v => Mild.bind_ hf (k v) (h v)
  | .choose _ k, h => fun v => Mild.bind_ hf (k v) (h v)
  | .program k, h => fun v => Mild.bind_ hf (k v) (h v)
  | .mark _ k, h => Mild.bind_ hf k h
  | .halt _, _ => trivial
  | .store .., h => h.elim
  | .freeze .., h => h.elim
  | .setObj .., h => h.elim
  | .sys .., h => h.elim
theorem Mild.bind {α β : Type} {s : Sem α} {f : α → Sem β} (hs : Mild s) (hf : ∀ a, Mild (f a)) : Mild (s >>= f) := Mild.bind_ hf s hs

/-- What stays under an alloc and a draw. -/
structure Calmly (R : World → Prop) : Prop where
  alloc : ∀ w o, R w → R (w.alloc o)
  draw : ∀ w : World, R w → R { w with drawn := w.drawn + 1 }
theorem Mild.run {α : Type} {P : Program} {R : World → Prop} (hR : Calmly R) : ∀ (s : Sem α) (w : World), Mild s → R w → ∀ a w', s.run P w = .ok a w' → R w'
  | .pure _, w, _, h, a, w', e => by simp only [Sem.run] at e; cases e; exact h
  | .load m p k, w, hm, h, a, w', e => by
    simp only [Sem.run] at e
    split at e
    · exact Mild.run hR _ w (hm _) h a w' e
    · split at e
      · exact Mild.run hR _ w (hm _) h a w' e
      · cases e
  | .new o k, w, hm, h, a, w', e => by
    simp only [Sem.run] at e
    exact Mild.run hR (k w.heap.size) _ (hm _) (hR.alloc w o h) a w' e
  | .shape r k, w, hm, h, a, w', e => by simp only [Sem.run] at e; exact Mild.run hR _ w (hm _) h a w' e
  | .frozen r k, w, hm, h, a, w', e => by simp only [Sem.run] at e; exact Mild.run hR _ w (hm _) h a w' e
  | .getObj r k, w, hm, h, a, w', e => by
    simp only [Sem.run] at e
    split at e
    · cases e
    · exact Mild.run hR _ w (hm _) h a w' e
    · cases e
  | .choose q k, w, hm, h, a, w', e => by
    simp only [Sem.run] at e
    split at e
    · exact Mild.run hR _ w (hm _) h a w' e
    · exact Mild.run hR _ _ (hm _) (hR.draw w h) a w' e
  | .program k, w, hm, h, a, w', e => by simp only [Sem.run] at e; exact Mild.run hR _ w (hm _) h a w' e
  | .mark _ k, w, hm, h, a, w', e => by simp only [Sem.run] at e; exact Mild.run hR k w hm h a w' e
  | .halt _, w, _, h, a, w', e => by simp only [Sem.run] at e; cases e
  | .store .., _, h, _, _, _, _ => h.elim
  | .freeze .., _, h, _, _, _, _ => h.elim
  | .setObj .., _, h, _, _, _, _ => h.elim
  | .sys .., _, h, _, _, _, _ => h.elim

theorem Mild.underlying (t : TypeId) : Mild (Go.underlying t) := by unfold Go.underlying; exact Mild.bind (fun _ => trivial) (fun _ => by split <;> trivial)
theorem Mild.typeInfo (t : TypeId) : Mild (Go.typeInfo t) := by unfold Go.typeInfo; exact Mild.bind (fun _ => trivial) (fun _ => by split <;> trivial)
theorem Mild.sizeOf (t : TypeId) : Mild (Go.sizeOf t) := by unfold Go.sizeOf; exact Mild.bind (Mild.typeInfo t) (fun _ => trivial)
theorem Mild.isAgg (t : TypeId) : Mild (Go.isAgg t) := by unfold Go.isAgg; exact Mild.bind (Mild.underlying t) (fun _ => by split <;> trivial)
theorem Mild.load (a : Addr) : Mild (load a) := fun _ => trivial
theorem Mild.loadCellsFrom (a : Addr) : ∀ (n i : Nat) (acc : Array Value), Mild (loadCellsFrom a i n acc)
  | 0, _, _ => trivial
  | n + 1, i, acc => by unfold Go.loadCellsFrom; exact Mild.bind (Mild.load _) (fun _ => Mild.loadCellsFrom a n _ _)
theorem Mild.loadVar (t : TypeId) (a : Addr) : Mild (loadVar t a) := by
  unfold Go.loadVar
  refine Mild.bind (Mild.isAgg t) (fun b => ?_)
  cases b with
  | true => exact Mild.bind (Mild.sizeOf t) (fun _ => Mild.bind (Mild.loadCellsFrom _ _ _ _) (fun _ => trivial))
  | false => exact Mild.load a
theorem Mild.sureAddr (v : Value) : Mild (Instr.sureAddr v) := by unfold Instr.sureAddr; split <;> trivial
theorem Mild.loadAt (t : TypeId) (v : Value) : Mild (Instr.loadAt t v) := by unfold Instr.loadAt; exact Mild.bind (Mild.sureAddr v) (fun _ => Mild.loadVar t _)
theorem Mild.choose (q : Question) : Mild (Go.choose q) := fun _ => trivial
theorem Mild.map {α β : Type} {f : α → β} {s : Sem α} (h : Mild s) : Mild (f <$> s) := by
  show Mild (s.bind (fun a => Sem.pure (f a)))
  exact Mild.bind_ (f := fun a => Sem.pure (f a)) (fun _ => True.intro) s h
theorem Mild.runtimePanic {α : Type} (e : RuntimeError) : Mild (Go.runtimePanic (α := α) e) := by
  unfold Go.runtimePanic
  refine Mild.bind (fun _ => trivial) (fun _ => ?_)
  dsimp only
  repeat' (first | exact trivial | exact (fun _ => trivial) | refine Mild.bind ?_ (fun _ => ?_) | split)
theorem Mild.boundsPanic {α : Type} (k : IntKind) (x y : Int) (c : BoundsCode) : Mild (Go.boundsPanic (α := α) k x y c) := by
  unfold Go.boundsPanic
  dsimp only
  split
  · exact Mild.bind (Mild.map (Mild.choose _)) (fun _ => Mild.runtimePanic _)
  · exact Mild.bind (s := pure _) trivial (fun _ => Mild.runtimePanic _)
theorem Mild.asIntOf (v : Value) : Mild (Go.asIntOf v) := by unfold Go.asIntOf; split <;> trivial
theorem Mild.asInt (v : Value) : Mild (Go.asInt v) := Mild.bind (Mild.asIntOf v) (fun _ => trivial)
theorem Mild.asBool (v : Value) : Mild (Go.asBool v) := by unfold Go.asBool; split <;> trivial
theorem Mild.asAddr (v : Value) : Mild (Go.asAddr v) := by unfold Go.asAddr; split <;> first | trivial | exact Mild.runtimePanic _
theorem Mild.sliceBound (x : Value) (y : Nat) (c : BoundsCode) : Mild (Instr.sliceBound x y c) := by
  unfold Instr.sliceBound
  refine Mild.bind (Mild.asIntOf x) (fun _ => ?_)
  dsimp only
  split
  · exact trivial
  · exact Mild.boundsPanic _ _ _ _
theorem Mild.sliceBounds (b : Bool) (l c : Nat) (x y z : Option Value) : Mild (Instr.sliceBounds b l c x y z) := by
  unfold Instr.sliceBounds
  repeat' (first | exact trivial | exact Mild.sliceBound _ _ _ | refine Mild.bind ?_ (fun _ => ?_) | split)
theorem Mild.slice (t : TypeId) (v : Value) (x y z : Option Value) : Mild (Instr.slice t v x y z) := by
  unfold Instr.slice
  repeat' (first | exact trivial | exact Mild.underlying _ | exact Mild.sizeOf _ | exact Mild.asAddr _ | exact Mild.sliceBounds _ _ _ _ _ _ | refine Mild.bind ?_ (fun _ => ?_) | split)
theorem Mild.sliceAt (t : TypeId) (v : Value) (x y z : Option Value) : Mild (Instr.sliceAt t v x y z) := by
  unfold Instr.sliceAt
  repeat' (first | exact trivial | exact Mild.underlying _ | exact Mild.sizeOf _ | exact Mild.sureAddr _ | exact Mild.sliceBounds _ _ _ _ _ _ | exact Mild.slice _ _ _ _ _ | refine Mild.bind ?_ (fun _ => ?_) | split)
theorem Mild.len_ (a : Array TypeId) (t : TypeId) (args : Array Value) : Mild (Builtin.len_ a t args) := by
  unfold Builtin.len_
  repeat' (first | exact trivial | exact Mild.underlying _ | exact (fun _ => trivial) | refine Mild.bind ?_ (fun _ => ?_) | split)
theorem Mild.stringOp (o : BinOp) (x y : ByteArray) : Mild (Op.stringOp o x y) := by
  unfold Op.stringOp
  dsimp only
  repeat' (first | exact trivial | split)
theorem Mild.min2 (x y : Value) : Mild (Builtin.min2 x y) := by
  unfold Builtin.min2
  repeat' (first | exact trivial | exact Mild.choose _ | exact Mild.stringOp _ _ _ | exact Mild.asBool _ | refine Mild.bind ?_ (fun _ => ?_) | split)
theorem Mild.foldlM {α β : Type} {f : β → α → Sem β} (h : ∀ b a, Mild (f b a)) : ∀ (l : List α) (b : β), Mild (l.foldlM f b)
  | [], _ => trivial
  | a :: l, b => by rw [List.foldlM_cons]; exact Mild.bind (h b a) (fun c => Mild.foldlM h l c)
theorem Mild.min_ (a : Array TypeId) (t : TypeId) (args : Array Value) : Mild (Builtin.min_ a t args) := by
  unfold Builtin.min_
  split
  · exact trivial
  · exact Mild.foldlM (fun _ _ => Mild.min2 _ _) _ _
theorem Mild.indexAt (t : TypeId) (x v : Value) : Mild (Instr.indexAt t x v) := by
  unfold Instr.indexAt
  repeat' (first | exact trivial | exact Mild.underlying _ | exact Mild.sizeOf _ | exact Mild.asIntOf _ | exact Mild.sureAddr _ | exact Mild.boundsPanic _ _ _ _ | refine Mild.bind ?_ (fun _ => ?_) | split | dsimp only)

theorem Mild.zeroValue (t : TypeId) : Mild (Go.zeroValue t) := by unfold Go.zeroValue; exact Mild.bind (Mild.typeInfo t) (fun _ => by split <;> trivial)
theorem Mild.newRow (t : TypeId) (cs : Array Value) : Mild (Go.newRow t cs) := Mild.bind (fun _ => trivial) (fun _ => trivial)
theorem Mild.box (t : TypeId) (v : Value) : Mild (Instr.box t v) := Mild.bind (Mild.newRow _ _) (fun _ => trivial)
theorem Mild.alloc (t : TypeId) : Mild (Instr.alloc t true (.tuple #[])) := Mild.bind (Mild.zeroValue t) (fun _ => Mild.bind (Mild.newRow _ _) (fun _ => trivial))
theorem Mild.buildSlice (t : TypeId) (n : Nat) (ps : Array (Nat × Value)) : Mild (Instr.buildSlice t n ps) := by
  unfold Instr.buildSlice
  repeat' (first | exact trivial | exact Mild.underlying _ | exact Mild.sizeOf _ | exact Mild.zeroValue _ | exact Mild.newRow _ _ | refine Mild.bind ?_ (fun _ => ?_) | split | dsimp only)

/-- An operation that yields a value and writes no old memory. -/
def MildOp (o : Oper) : Prop := ∀ ev, ∃ s : Sem Value, Mild s ∧ execOp ev o = s.bind (fun a => .pure (.value a))
def mildB : Op → Bool
  | .move _ => true
  | .assign _ => true
  | .load .. => true
  | .slice .. => true
  | .indexAddr .. => true
  | .buildSlice .. => true
  | .box .. => true
  | .alloc .. => true
  | .call { callee := .builtin .len, .. } => true
  | .call { callee := .builtin .min, .. } => true
  | _ => false
theorem mildB_spec {o : Oper} (h : mildB o.op = true) : MildOp o := by
  obtain ⟨d, op, _, _, _, _⟩ := o
  intro ev
  dsimp only at h
  cases op with
  | move x => exact ⟨.pure (ev x), trivial, rfl⟩
  | assign x => exact ⟨.pure (ev x), trivial, rfl⟩
  | load t a => exact ⟨_, Mild.loadAt t (ev a), rfl⟩
  | slice t x lo hi mx => exact ⟨_, Mild.sliceAt _ _ _ _ _, rfl⟩
  | indexAddr t x i => exact ⟨_, Mild.indexAt _ _ _, rfl⟩
  | buildSlice t n ps => exact ⟨_, Mild.buildSlice _ _ _, rfl⟩
  | box t x => exact ⟨_, Mild.box _ _, rfl⟩
  | alloc t => exact ⟨_, Mild.alloc _, rfl⟩
  | call c =>
    obtain ⟨cl, ar, ty⟩ := c
    cases cl with
    | builtin b => cases b with
      | len => exact ⟨_, Mild.len_ _ _ _, rfl⟩
      | min => exact ⟨_, Mild.min_ _ _ _, rfl⟩
      | _ => cases h
    | _ => cases h
  | _ => cases h

section
variable {P : Program} {ops : Array Oper} {Q : Exit → Act → World → Prop} {md : Region.Mode} {S R : World → Prop}
theorem wpOp_mild (hR : Calmly R) {j : Nat} {oj : Oper} (hj : ops[j]? = some oj) (hm : MildOp oj) {K : Act → World → Prop} {a : Act} {w : World} (hRw : R w) (h : wpOp P ops Q j K a w) : wpOp P ops Q j (fun a' w' => R w' ∧ K a' w') a w := by
  unfold wpOp at *
  simp only [hj] at *
  split
  · rename_i hw
    simp only [hw, if_true] at h
    rcases h with h | h
    · left
      unfold Oper.wp at *
      obtain ⟨s, hs, he⟩ := hm a.eval
      have hr : (execOp a.eval oj).run P w = (s.run P w).andThen (fun v w' => .ok (.value v) w') := by rw [he]; exact Sem.run_bind P w s _
      rw [hr] at h ⊢
      cases e : s.run P w with
      | ok v w' => rw [e] at h; exact ⟨Mild.run hR s w hs hRw v w' e, h⟩
      | halt x w' => rw [e] at h; cases x <;> exact h
    · exact .inr h
  · rename_i hw
    simp only [hw] at h
    exact ⟨hRw, h⟩

/-- Ahead of i come only mild operations; those of B wait for it. -/
def keptB (md : Region.Mode) (ops : Array Oper) (listed : Array Bool) (i : Nat) (B : List Nat) : Bool :=
  (B.all fun j => !listed.getD j true && !(j == i)) && (List.range ops.size).all fun j => j == i || listed.getD j true || match ops[j]? with
    | some o => if B.contains j then o.after.any (fun e => Region.binds md e && (e.on == i || B.contains e.on)) else mildB o.op
    | none => true

theorem first_mild (hR : Calmly R) {B : List Nat} {i : Nat} {oi : Oper} {v : Value} (hi : ops[i]? = some oi) (hsel : ∀ (j : Nat) (o : Oper) cs b, ops[j]? = some o → o.op ≠ .select cs b)
    (hQ : ∀ c a w, Q (.panic c) (a.put oi.dst v) w → Q (.panic c) a w) (hB2 : ∀ j ∈ B, ∀ oj, ops[j]? = some oj → ∃ e ∈ oj.after, Region.binds md e = true ∧ (e.on = i ∨ e.on ∈ B)) :
    ∀ (fuel : Nat) (listed : Array Bool) (a : Act) (w : World),
      (∀ j oj, ops[j]? = some oj → j ≠ i → listed.getD j true = false → (∀ e ∈ oj.after, Region.binds md e = true → e.on ≠ i) → oi.apart ops oj = true) →
      (∀ j oj, ops[j]? = some oj → j ≠ i → listed.getD j true = false → j ∉ B → MildOp oj) → (∀ j ∈ B, listed.getD j true = false) →
      i ∈ Region.ready md ops listed → YieldsIf P ops R oi v a → R w → S w →
      wpAnyH P md ops Q S fuel (listed.setIfInBounds i true) (a.put oi.dst v) w → wpAnyH P md ops Q S (fuel + 1) listed a w := by
  intro fuel
  induction fuel with
  | zero =>
    intro listed a w _ _ _ hr hy hRw hS H
    refine ⟨fun h => (by rw [h] at hr; cases hr), fun j hj => ?_⟩
    by_cases hji : j = i
    · subst hji; exact hy.wpOp hi hRw ⟨hS, H⟩
    · have := ready_mono hj hji
      rw [H.1] at this
      cases this
  | succ fuel ih =>
    intro listed a w hfree hmild hB1 hr hy hRw hS H
    refine ⟨fun h => (by rw [h] at hr; cases hr), fun j hj => ?_⟩
    by_cases hji : j = i
    · subst hji; exact hy.wpOp hi hRw ⟨hS, H⟩
    · have h1 := H.2 j (ready_mono hj hji)
      obtain ⟨hjun, oj, hoj, hall⟩ := mem_ready.1 hj
      have hi0 := (mem_ready.1 hr).1
      have hoff : ∀ k, listed.getD k true = false → listed.getD k false = true → False := fun k h0 h1 => by
        rcases Nat.lt_or_ge k listed.size with q | q
        · simp [q] at h0 h1; rw [h0] at h1; cases h1
        · simp [Array.getElem?_eq_none q] at h1
      have hnot : ∀ e ∈ oj.after, Region.binds md e = true → e.on ≠ i := fun e he hb heq => hoff i hi0 (by rw [← heq]; exact hall e he hb)
      have hjB : j ∉ B := fun hB => by
        obtain ⟨e, he, hb, q | q⟩ := hB2 j hB oj hoj
        · exact hnot e he hb q
        · exact hoff _ (hB1 _ q) (hall e he hb)
      have h2 := wpOp_mild hR hoj (hmild j oj hoj hji hjun hjB) hRw (wpOp_putIf hoj (hfree j oj hoj hji hjun hnot) (fun cs b => hsel i oi cs b hi) (fun cs b => hsel j oj cs b hoj) hQ hy h1)
      have un : ∀ k, k ≠ i → (listed.setIfInBounds j true).getD k true = false → listed.getD k true = false := fun k _ hun => by
        by_cases hjk : j = k
        · subst hjk; exact hjun
        · rw [getD_set_ne true hjk] at hun; exact hun
      refine wpOp_mono (fun a' w' h3 => ⟨h3.2.2.1, ih (listed.setIfInBounds j true) a' w' (fun k ok hk hki hun hno => hfree k ok hk hki (un k hki hun) hno) (fun k ok hk hki hun hkB => hmild k ok hk hki (un k hki hun) hkB) (fun k hk => ?_) (ready_mono hr (Ne.symm hji)) h3.2.1 h3.1 h3.2.2.1 ?_⟩) h2
      · rw [getD_set_ne true (fun e => hjB (by rw [e]; exact hk))]; exact hB1 k hk
      · rw [Array.setIfInBounds_comm _ _ hji]
        exact h3.2.2.2

/-- Take number i first: what it yields hangs on R, which all that can come ahead of it keeps; those of B wait for it. -/
theorem wpAnyH_takeM (R : World → Prop) (hR : Calmly R) (B : List Nat) {i : Nat} {oi : Oper} {v : Value} {fuel : Nat} {listed : Array Bool} {a : Act} {w : World} (hi : ops[i]? = some oi)
    (hs : Region.noSelect ops = true) (hf : Region.free md ops listed i = true) (hb : keptB md ops listed i B = true) (hr : (Region.ready md ops listed).contains i = true)
    (hQ : ∀ c a w, Q (.panic c) (a.put oi.dst v) w → Q (.panic c) a w) (hy : YieldsIf P ops R oi v a) (hRw : R w) (hS : S w)
    (h : wpAnyH P md ops Q S fuel (listed.setIfInBounds i true) (a.put oi.dst v) w) : wpAnyH P md ops Q S (fuel + 1) listed a w := by
  simp only [keptB, Bool.and_eq_true, List.all_eq_true, Bool.not_eq_true', List.mem_range, beq_eq_false_iff_ne] at hb
  obtain ⟨b0, b2⟩ := hb
  have b1 : ∀ j ∈ B, listed.getD j true = false := fun j hj => (b0 j hj).1
  refine first_mild hR hi (Region.noSelect_spec hs) hQ (fun j hj oj hoj => ?_) fuel listed a w (Region.free_spec hi hf) (fun j oj hoj hji hun hjB => ?_) b1 (by simpa using hr) hy hRw hS h
  · have := b2 j (Array.getElem?_eq_some_iff.1 hoj).1
    rw [hoj, b1 j hj] at this
    simp only [Bool.or_false, Bool.or_eq_true, beq_iff_eq, (b0 j hj).2, false_or] at this
    rw [if_pos (by simpa using hj)] at this
    obtain ⟨e, he, hb⟩ := Array.any_eq_true'.1 this
    simp only [Bool.and_eq_true, Bool.or_eq_true, beq_iff_eq] at hb
    exact ⟨e, he, hb.1, hb.2.imp id (fun q => by simpa using q)⟩
  · have := b2 j (Array.getElem?_eq_some_iff.1 hoj).1
    rw [hoj, hun] at this
    simp only [Bool.or_false, Bool.or_eq_true, beq_iff_eq, hji, false_or] at this
    rw [if_neg (by simpa using hjB)] at this
    exact mildB_spec this
end

/-- Cells that hold what they hold. -/
theorem calm_cell (p : Addr) (v : Value) : Calmly (fun w => w.cell? p = some v) :=
  ⟨fun w o h => by rw [World.cell?_alloc_lt _ _ _ (World.block_lt_of_cell? w p h)]; exact h, fun _ h => h⟩
end Go.Proofs.Ytblkgjdhaibhgaa
