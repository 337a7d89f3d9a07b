/-
  A region that draws its order, shown by facts: each operation, run behind those it waits for, leaves a fact that the others keep; then, whatever the order, all the facts hold at the end. No condition of its own.
-/
import Derived.Test.YtnefhokojbkppaaDrawn
import Derived.Deep.RegionHeld3
namespace Go.Proofs.Ytnefhokojbkppaa
open Go

section
variable {P : Program} {ops : Array Oper} {Q : Exit → Act → World → Prop} {md : Region.Mode} {S : World → Prop}

/-- The state a, with g's values in the slots ds. -/
def mkA (a : Act) (ds : List Nat) (g : Nat → Value) : Act := { a with tmps := ds.foldl (fun x t => x.setIfInBounds t (g t)) a.tmps }
theorem fold_size (g : Nat → Value) : ∀ (ds : List Nat) (x : Array Value), (ds.foldl (fun x t => x.setIfInBounds t (g t)) x).size = x.size
  | [], _ => rfl
  | d :: ds, x => by rw [List.foldl_cons, fold_size g ds]; simp
theorem fold_get (g : Nat → Value) : ∀ (ds : List Nat) (x : Array Value) (t : Nat), (ds.foldl (fun x t => x.setIfInBounds t (g t)) x)[t]? = if t ∈ ds ∧ t < x.size then some (g t) else x[t]?
  | [], x, t => by simp
  | d :: ds, x, t => by
    rw [List.foldl_cons, fold_get g ds]
    by_cases h : t < x.size
    · by_cases h1 : t ∈ ds
      · rw [if_pos ⟨h1, by simpa using h⟩, if_pos ⟨by simp [h1], h⟩]
      · rw [if_neg (fun q => h1 q.1)]
        by_cases e : d = t
        · subst e
          rw [if_pos ⟨by simp, h⟩]; simp [h]
        · rw [if_neg (fun q => by simp [Ne.symm e, h1] at q), Array.getElem?_setIfInBounds_ne e]
    · rw [if_neg (fun q => h (by simpa using q.2)), if_neg (fun q => h q.2), Array.getElem?_eq_none (by simp; omega), Array.getElem?_eq_none (by omega)]
theorem mkA_eq {a a0 : Act} {ds : List Nat} (h1 : a.defers = a0.defers) (h2 : a.tmps.size = a0.tmps.size) (h3 : ∀ t, t ∉ ds → a.tmps[t]? = a0.tmps[t]?) : a = mkA a0 ds (fun t => a.tmps.getD t undef) := by
  obtain ⟨tm, df⟩ := a
  obtain ⟨tm0, df0⟩ := a0
  dsimp only at h1 h2 h3
  subst h1
  unfold mkA
  congr 1
  refine Array.ext_getElem? fun t => ?_
  rw [fold_get]
  by_cases h : t ∈ ds ∧ t < tm0.size
  · rw [if_pos h]
    have : t < tm.size := by omega
    simp [this]
  · rw [if_neg h]
    by_cases q : t ∈ ds
    · have : ¬ t < tm0.size := fun r => h ⟨q, r⟩
      simp only [] at *
      rw [Array.getElem?_eq_none (by omega), Array.getElem?_eq_none (by omega)]
    · exact h3 t q

/-- What o waits for, among the open ones. -/
def depsOf (md : Region.Mode) (opens : List Nat) (o : Oper) : List Nat := ((o.after.toList.filter (Region.binds md)).map (·.on)).filter opens.contains
def updG (g : Nat → Value) (d : Option Nat) (v : Value) : Nat → Value := fun t => if some t = d then v else g t
/-- Operation i, run behind those it waits for, leaves its fact. -/
def StepF (P : Program) (md : Region.Mode) (ops : Array Oper) (Q : Exit → Act → World → Prop) (S : World → Prop) (a0 : Act) (w0 : World) (opens ds : List Nat) (R : World → World → Prop) (V : Nat → (Nat → Value) → World → Prop) (own : Nat → (Nat → Value) → Nat → Prop) (i : Nat) : Prop :=
  ∀ o, ops[i]? = some o → ∀ g w, R w0 w → S w → (∀ j, (depsOf md opens o).contains j = true → V j g w) → ∀ K : Act → World → Prop,
    Shut (∀ v w', R w w' → S w' → V i (updG g o.dst v) w' → (∀ k, own i (updG g o.dst v) k → w.heap.size ≤ k ∧ k < w'.heap.size) → K ((mkA a0 ds g).put o.dst v) w') → if Region.wanted o (yielded ops (mkA a0 ds g).tmps) = true then Oper.wp P o (mkA a0 ds g) w K Q else K ((mkA a0 ds g).put o.dst undef) w
theorem StepF.of {a0 : Act} {w0 : World} {opens ds : List Nat} {R : World → World → Prop} {V : Nat → (Nat → Value) → World → Prop} {own : Nat → (Nat → Value) → Nat → Prop} {i : Nat} {o : Oper} (ho : ops[i]? = some o)
    (h : ∀ g w, R w0 w → S w → (∀ j, (depsOf md opens o).contains j = true → V j g w) → ∀ K : Act → World → Prop,
      Shut (∀ v w', R w w' → S w' → V i (updG g o.dst v) w' → (∀ k, own i (updG g o.dst v) k → w.heap.size ≤ k ∧ k < w'.heap.size) → K ((mkA a0 ds g).put o.dst v) w') → if Region.wanted o (yielded ops (mkA a0 ds g).tmps) = true then Oper.wp P o (mkA a0 ds g) w K Q else K ((mkA a0 ds g).put o.dst undef) w) :
    StepF P md ops Q S a0 w0 opens ds R V own i := fun o' ho' => by
  rw [ho] at ho'
  injection ho' with ho'
  subst ho'
  exact h
/-- Does operation r wait for i, at most n steps through open ones? -/
def reachB (md : Region.Mode) (ops : Array Oper) (opens : List Nat) : Nat → Nat → Nat → Bool
  | 0, r, i => match ops[r]? with
    | none => false
    | some o => (depsOf md opens o).contains i
  | n + 1, r, i => match ops[r]? with
    | none => false
    | some o => (depsOf md opens o).contains i || (depsOf md opens o).any fun j => reachB md ops opens n j i
/-- The conditions that a kernel can check. -/
def okF (md : Region.Mode) (ops : Array Oper) (listed : Array Bool) (n : Nat) (opens ds : List Nat) (sl : Nat → List Nat) : Bool :=
  decide (listed.size = ops.size) && opens.all (fun i => decide (i < ops.size) && !listed.getD i true) &&
  (List.range ops.size).all (fun i => listed.getD i true || opens.contains i || (match ops[i]? with | none => false | some o => o.after.toList.any fun e => Region.binds md e && !listed.getD e.on false && !opens.contains e.on) || opens.all (reachB md ops opens opens.length i)) &&
  opens.all (fun i => match ops[i]? with
    | none => false
    | some o => (match o.dst with | none => true | some d => ds.contains d && decide (d < n)) && (depsOf md opens o).all (fun j => decide (j < i)) && (o.after.toList.all fun e => !Region.binds md e || opens.contains e.on || listed.getD e.on false) &&
      opens.all (fun j => i == j || (match ops[j]? with
        | none => false
        | some o' => match o'.dst with
          | none => true
          | some d => !(sl i).contains d || (depsOf md opens o).contains j)))
theorem reach_listed {opens : List Nat} {listed : Array Bool} (hdep : ∀ i ∈ opens, ∀ o, ops[i]? = some o → listed.getD i false = true → ∀ j, (depsOf md opens o).contains j = true → listed.getD j false = true) :
    ∀ (n r i : Nat), (∀ o, ops[r]? = some o → ∀ j, (depsOf md opens o).contains j = true → listed.getD j false = true) → reachB md ops opens n r i = true → listed.getD i false = true
  | 0, r, i, hr, h => by
    unfold reachB at h
    cases ho : ops[r]? with
    | none => rw [ho] at h; cases h
    | some o => rw [ho] at h; exact hr o ho i h
  | n + 1, r, i, hr, h => by
    unfold reachB at h
    cases ho : ops[r]? with
    | none => rw [ho] at h; cases h
    | some o =>
      rw [ho] at h
      simp only [Bool.or_eq_true, List.any_eq_true] at h
      rcases h with h | ⟨j, hj, h⟩
      · exact hr o ho i h
      · have hjc : (depsOf md opens o).contains j = true := by simpa using hj
        have hjo : j ∈ opens := by unfold depsOf at hj; simp at hj; exact hj.2
        exact reach_listed hdep n j i (fun o' ho' k hk => hdep j hjo o' ho' (hr o ho j hjc) k hk) h

/-- The open operations come up, in whatever order; what waits for them all goes on behind them. -/
theorem wpAnyH_facts {a0 : Act} {w0 : World} {listed0 : Array Bool} {fuel : Nat} (opens ds : List Nat) (sl : Nat → List Nat) (R : World → World → Prop) (V : Nat → (Nat → Value) → World → Prop) (own : Nat → (Nat → Value) → Nat → Prop)
    (hok : okF md ops listed0 a0.tmps.size opens ds sl = true) (hnd : opens.Nodup) (hS : S w0) (Rr : R w0 w0) (Rt : ∀ w w', R w0 w → R w w' → R w0 w')
    (stable : ∀ i ∈ opens, ∀ g g' w w', R w0 w → R w w' → (∀ t ∈ sl i, g' t = g t) → V i g w → V i g' w')
    (Rsz : ∀ w w', R w w' → w.heap.size ≤ w'.heap.size) (ostable : ∀ i ∈ opens, ∀ g g', (∀ t ∈ sl i, g' t = g t) → ∀ k, own i g' k → own i g k)
    (step : ∀ i ∈ opens, StepF P md ops Q S a0 w0 opens ds R V own i)
    (fin : ∀ g w, R w0 w → S w → (∀ i ∈ opens, V i g w) → (∀ i ∈ opens, ∀ j ∈ opens, i ≠ j → ∀ k, own i g k → ¬ own j g k) → wpAnyH P md ops Q S fuel (opens.foldl (fun l i => l.setIfInBounds i true) listed0) (mkA a0 ds g) w) : wpAnyH P md ops Q S (fuel + opens.length) listed0 a0 w0 := by
  unfold okF at hok
  simp only [Bool.and_eq_true, decide_eq_true_eq, List.all_eq_true, List.mem_range] at hok
  obtain ⟨⟨⟨hsz, hop⟩, hrest⟩, hop2⟩ := hok
  have hlt : ∀ i ∈ opens, i < ops.size := fun i hi => (hop i hi).1
  suffices ∀ (n : Nat) (listed : Array Bool) (a : Act) (w : World), listed.size = ops.size → (∀ i, i ∉ opens → listed[i]? = listed0[i]?) → (opens.filter fun i => !listed.getD i false).length = n →
      a.defers = a0.defers → a.tmps.size = a0.tmps.size → (∀ t, t ∉ ds → a.tmps[t]? = a0.tmps[t]?) → R w0 w → S w → (∀ i ∈ opens, listed.getD i false = true → V i (fun t => a.tmps.getD t undef) w) →
      (∀ i ∈ opens, listed.getD i false = true → ∀ k, own i (fun t => a.tmps.getD t undef) k → k < w.heap.size) → (∀ i ∈ opens, ∀ j ∈ opens, listed.getD i false = true → listed.getD j false = true → i ≠ j → ∀ k, own i (fun t => a.tmps.getD t undef) k → ¬ own j (fun t => a.tmps.getD t undef) k) →
      (∀ i ∈ opens, ∀ o, ops[i]? = some o → listed.getD i false = true → ∀ j, (depsOf md opens o).contains j = true → listed.getD j false = true) → wpAnyH P md ops Q S (fuel + n) listed a w by
    have hun0 : ∀ i ∈ opens, listed0.getD i false = false := fun i hi => by
      have := (hop i hi).2
      have h2 := hlt i hi
      simp [hsz, h2] at this ⊢
      exact this
    refine this opens.length listed0 a0 w0 hsz (fun _ _ => rfl) ?_ rfl rfl (fun _ _ => rfl) Rr hS (fun i hi h => ?_) (fun i hi h => ?_) (fun i hi j _ h => ?_) (fun i hi o _ h => ?_)
    · rw [List.filter_eq_self.2 fun i hi => by simp [hun0 i hi]]
    · rw [hun0 i hi] at h; cases h
    · rw [hun0 i hi] at h; cases h
    · rw [hun0 i hi] at h; cases h
    · rw [hun0 i hi] at h; cases h
  intro n
  induction n with
  | zero =>
    intro listed a w hs hl hf hd ht hold hR hS hV hO hD hdep
    have hall : ∀ i ∈ opens, listed.getD i false = true := fun i hi => by
      have := List.eq_nil_of_length_eq_zero hf
      have := List.filter_eq_nil_iff.1 this i hi
      simpa using this
    have hfold : ∀ (l : List Nat) (x : Array Bool) (i : Nat), (l.foldl (fun l i => l.setIfInBounds i true) x)[i]? = if i ∈ l ∧ i < x.size then some true else x[i]? := by
      intro l
      induction l with
      | nil => intro x i; simp
      | cons d l ihl =>
        intro x i
        rw [List.foldl_cons, ihl]
        by_cases h : i < x.size
        · by_cases h1 : i ∈ l
          · rw [if_pos ⟨h1, by simpa using h⟩, if_pos ⟨by simp [h1], h⟩]
          · rw [if_neg (fun q => h1 q.1)]
            by_cases e : d = i
            · subst e
              rw [if_pos ⟨by simp, h⟩]; simp [h]
            · rw [if_neg (fun q => by simp [Ne.symm e, h1] at q), Array.getElem?_setIfInBounds_ne e]
        · rw [if_neg (fun q => h (by simpa using q.2)), if_neg (fun q => h q.2), Array.getElem?_eq_none (by simp; omega), Array.getElem?_eq_none (by omega)]
    have heq : listed = opens.foldl (fun l i => l.setIfInBounds i true) listed0 := by
      refine Array.ext_getElem? fun i => ?_
      rw [hfold]
      by_cases h : i ∈ opens
      · have h1 := hall i h
        have h2 := hlt i h
        rw [if_pos ⟨h, by omega⟩]
        have : i < listed.size := by omega
        simp [this] at h1 ⊢
        exact h1
      · rw [if_neg (fun q => h q.1)]; exact hl i h
    rw [heq, mkA_eq hd ht hold]
    exact fin _ w hR hS (fun i hi => hV i hi (hall i hi)) (fun i hi j hj => hD i hi j hj (hall i hi) (hall j hj))
  | succ n ih =>
    intro listed a w hs hl hf hd ht hold hR hS hV hO hD hdep
    have hl' : ∀ i, i ∉ opens → ∀ d, listed.getD i d = listed0.getD i d := fun i hi d => by
      have := hl i hi
      simp only [Array.getD_eq_getD_getElem?, this]
    have hrdy : ∀ i ∈ opens, listed.getD i false ≠ true → ∃ k, k ∈ Region.ready md ops listed := by
      suffices ∀ m i, i ≤ m → i ∈ opens → listed.getD i false ≠ true → ∃ k, k ∈ Region.ready md ops listed from fun i hi hn => this i i (Nat.le_refl _) hi hn
      intro m
      induction m with
      | zero =>
        intro i him hi hn
        have hb := hop2 i hi
        cases ho : ops[i]? with
        | none => rw [ho] at hb; simp at hb
        | some o =>
          rw [ho] at hb
          simp only [Bool.and_eq_true, List.all_eq_true, decide_eq_true_eq] at hb
          refine ⟨i, mem_ready.2 ⟨?_, o, ho, fun e he hbi => ?_⟩⟩
          · have := hlt i hi
            simp [hs, this] at hn ⊢
            exact hn
          · by_cases q : e.on ∈ opens
            · have := hb.1.1.2 e.on (by unfold depsOf; simp; exact ⟨⟨e, ⟨he, hbi⟩, rfl⟩, q⟩)
              omega
            · have h3 := hb.1.2 e (by simpa using he)
              rw [hl' _ q]
              simpa [hbi, q] using h3
      | succ m ihm =>
        intro i him hi hn
        have hb := hop2 i hi
        cases ho : ops[i]? with
        | none => rw [ho] at hb; simp at hb
        | some o =>
          rw [ho] at hb
          simp only [Bool.and_eq_true, List.all_eq_true, decide_eq_true_eq] at hb
          by_cases hex : ∃ j, (depsOf md opens o).contains j = true ∧ listed.getD j false ≠ true
          · obtain ⟨j, hj, hjn⟩ := hex
            have hjm : j ∈ depsOf md opens o := by simpa using hj
            have h4 := hb.1.1.2 j hjm
            exact ihm j (by omega) (by unfold depsOf at hjm; simp at hjm; exact hjm.2) hjn
          · refine ⟨i, mem_ready.2 ⟨?_, o, ho, fun e he hbi => ?_⟩⟩
            · have := hlt i hi
              simp [hs, this] at hn ⊢
              exact hn
            · by_cases q : e.on ∈ opens
              · exact Decidable.byContradiction fun hne => hex ⟨e.on, by unfold depsOf; simp; exact ⟨⟨e, ⟨he, hbi⟩, rfl⟩, q⟩, hne⟩
              · have h3 := hb.1.2 e (by simpa using he)
                rw [hl' _ q]
                simpa [hbi, q] using h3
    have hleft : ∃ i ∈ opens, listed.getD i false ≠ true := by
      have hne : (opens.filter fun i => !listed.getD i false) ≠ [] := fun q => by rw [q] at hf; simp at hf
      obtain ⟨i, hi⟩ := List.exists_mem_of_ne_nil _ hne
      have := List.mem_filter.1 hi
      exact ⟨i, this.1, by simpa using this.2⟩
    obtain ⟨i0, hi0, hn0⟩ := hleft
    refine ⟨fun hr => ?_, fun i hi => ?_⟩
    · obtain ⟨k, hk⟩ := hrdy i0 hi0 hn0
      rw [hr] at hk; cases hk
    · obtain ⟨h1, o, ho, hall⟩ := mem_ready.1 hi
      have hi2 : i < ops.size := by
        rcases Nat.lt_or_ge i ops.size with q | q
        · exact q
        · rw [Array.getElem?_eq_none q] at ho; cases ho
      have hun : listed.getD i false = false := by simp [hs, hi2] at h1 ⊢; exact h1
      have hdl : ∀ j, (depsOf md opens o).contains j = true → listed.getD j false = true := fun j hj => by
        unfold depsOf at hj
        simp at hj
        obtain ⟨⟨e, ⟨he, hb⟩, rfl⟩, _⟩ := hj
        exact hall e (by simpa using he) hb
      have hio : i ∈ opens := Decidable.byContradiction fun q => by
        have h3 := hrest i hi2
        have h4 : listed0.getD i true = false := by rw [← hl' i q]; exact h1
        simp only [h4, Bool.false_or, Bool.or_eq_true, List.all_eq_true] at h3
        rcases h3 with (h3 | h3) | h3
        · exact q (by simpa using h3)
        · rw [ho] at h3
          simp only [List.any_eq_true, Bool.and_eq_true, Bool.not_eq_true'] at h3
          obtain ⟨e, he, ⟨hb, h5⟩, h6⟩ := h3
          have h7 := hall e (by simpa using he) hb
          rw [hl' e.on (by simpa using h6), h5] at h7
          cases h7
        · exact hn0 (reach_listed hdep opens.length i i0 (fun o' ho' => by rw [ho] at ho'; injection ho' with ho'; subst ho'; exact hdl) (h3 i0 hi0))
      have hdo : ∀ j, (depsOf md opens o).contains j = true → j ∈ opens := fun j hj => by
        unfold depsOf at hj
        simp at hj
        exact hj.2
      have hb := hop2 i hio
      rw [ho] at hb
      simp only [Bool.and_eq_true, List.all_eq_true, decide_eq_true_eq] at hb
      have hmk := mkA_eq hd ht hold
      refine wpOp_step ho fun K' hK => ?_
      have hst := step i hio o ho (fun t => a.tmps.getD t undef) w hR hS (fun j hj => hV j (hdo j hj) (hdl j hj)) K' (fun v w' hRw hSw hVi hOi => ?_)
      · rw [← hmk] at hst; exact hst
      · rw [← hmk]
        refine hK _ _ ⟨hSw, ?_⟩
        have hR2 := Rt w w' hR hRw
        have hsame : ∀ t, some t ≠ o.dst → (a.put o.dst v).tmps[t]? = a.tmps[t]? := fun t h => by
          cases hod : o.dst with
          | none => rfl
          | some d => exact Array.getElem?_setIfInBounds_ne (by rintro rfl; exact h hod.symm)
        have hget : (fun t => (a.put o.dst v).tmps.getD t undef) = updG (fun t => a.tmps.getD t undef) o.dst v := by
          funext t
          unfold updG
          by_cases q : some t = o.dst
          · rw [if_pos q]
            have hb2 := hb.1.1.1
            rw [← q] at hb2
            simp only [Bool.and_eq_true, decide_eq_true_eq] at hb2
            rw [← q]
            have : t < a.tmps.size := by rw [ht]; exact hb2.2
            show (a.tmps.setIfInBounds t v).getD t undef = v
            simp [this]
          · rw [if_neg q]
            have := hsame t q
            simp only [Array.getD_eq_getD_getElem?, this]
        have hsl : ∀ j ∈ opens, i ≠ j → listed.getD j false = true → ∀ t ∈ sl j, updG (fun t => a.tmps.getD t undef) o.dst v t = (fun t => a.tmps.getD t undef) t := fun j hj q hjl t htj => by
          unfold updG
          by_cases r : some t = o.dst
          · exfalso
            have hbj := hop2 j hj
            cases hoj : ops[j]? with
            | none => rw [hoj] at hbj; simp at hbj
            | some oj =>
              rw [hoj] at hbj
              simp only [Bool.and_eq_true, List.all_eq_true] at hbj
              have h5 := hbj.2 i hio
              rw [ho] at h5
              simp only [← r] at h5
              have hne : (j == i) = false := by simp [Ne.symm q]
              have hc : (sl j).contains t = true := by simpa using htj
              rw [hne, hc] at h5
              simp only [Bool.false_or, Bool.not_true] at h5
              have := hdep j hj oj hoj hjl i h5
              rw [this] at hun; cases hun
          · rw [if_neg r]
        refine ih (listed.setIfInBounds i true) (a.put o.dst v) w' (by simpa using hs) (fun j hj => ?_) ?_ ?_ ?_ (fun t ht2 => ?_) hR2 hSw (fun j hj hjl => ?_) (fun j hj hjl k hk => ?_) (fun j hj m hm hjl hml hjm k hk hk2 => ?_) (fun j hj o' ho' hjl k hk => ?_)
        · rw [Array.getElem?_setIfInBounds_ne (fun q => hj (by rw [← q]; exact hio))]; exact hl j hj
        · -- one less
          have hsub : (opens.filter fun j => !(listed.setIfInBounds i true).getD j false) = ((opens.filter fun j => !listed.getD j false).erase i) := by
            rw [List.Nodup.erase_eq_filter (hnd.filter _), List.filter_filter]
            refine List.filter_congr fun j hj => ?_
            by_cases q : i = j
            · subst q
              simp [hs, hi2]
            · rw [getD_set_ne false q]
              simp [Ne.symm q]
          rw [hsub]
          have hm : i ∈ (opens.filter fun j => !listed.getD j false) := List.mem_filter.2 ⟨hio, by simp [hun]⟩
          rw [List.length_erase_of_mem hm, hf]; rfl
        · cases o.dst <;> exact hd
        · cases o.dst with
          | none => exact ht
          | some d => simpa [Act.put] using ht
        · rw [hsame t (fun q => ?_)]
          · exact hold t ht2
          · have hb2 := hb.1.1.1
            rw [← q] at hb2
            simp only [Bool.and_eq_true] at hb2
            exact ht2 (by simpa using hb2.1)
        · rw [hget]
          by_cases q : i = j
          · subst q; exact hVi
          · rw [getD_set_ne false q] at hjl
            exact stable j hj _ _ w w' hR hRw (hsl j hj q hjl) (hV j hj hjl)
        · rw [hget] at hk
          by_cases q : i = j
          · subst q; exact (hOi k hk).2
          · rw [getD_set_ne false q] at hjl
            exact Nat.lt_of_lt_of_le (hO j hj hjl k (ostable j hj _ _ (hsl j hj q hjl) k hk)) (Rsz w w' hRw)
        · rw [hget] at hk hk2
          by_cases q : i = j
          · subst q
            rw [getD_set_ne false hjm] at hml
            have h1 := (hOi k hk).1
            have h2 := hO m hm hml k (ostable m hm _ _ (hsl m hm hjm hml) k hk2)
            omega
          · rw [getD_set_ne false q] at hjl
            have hk3 := ostable j hj _ _ (hsl j hj q hjl) k hk
            by_cases q2 : i = m
            · subst q2
              have h1 := (hOi k hk2).1
              have h2 := hO j hj hjl k hk3
              omega
            · rw [getD_set_ne false q2] at hml
              exact hD j hj m hm hjl hml hjm k hk3 (ostable m hm _ _ (hsl m hm q2 hml) k hk2)
        · by_cases q : i = j
          · subst q
            rw [ho] at ho'
            injection ho' with ho'
            subst ho'
            exact getD_set_true (hdl k hk)
          · rw [getD_set_ne false q] at hjl
            exact getD_set_true (hdep j hj o' ho' hjl k hk)
end
end Go.Proofs.Ytnefhokojbkppaa
