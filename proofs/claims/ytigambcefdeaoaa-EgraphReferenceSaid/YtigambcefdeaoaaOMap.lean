/-
  Maps whose keys are pairs of numbers (a struct of an int and an int64), over any program: what a look-up gives, what a store leaves. No condition of its own.
-/
import Derived.Test.YtigambcefdeaoaaSMap
namespace Go.Proofs.Ytigambcefdeaoaa
open Go.RowKit

def encO (a : Int × Int) : Value := .agg #[.int .i64 a.1, .int .i64 a.2]
def lookO : List ((Int × Int) × Value) → Int × Int → Option Value
  | [], _ => none
  | p :: ks, a => if a = p.1 then some p.2 else lookO ks a
def idxO : List ((Int × Int) × Value) → Int × Int → Nat → Option (Nat × Value)
  | [], _, _ => none
  | p :: ks, a, i => if a = p.1 then some (i, p.2) else idxO ks a (i + 1)

/-- The entries read as ks; each has a birth of its own. -/
structure ORep (es : Array MapEntry) (clock : Nat) (ks : List ((Int × Int) × Value)) : Prop where
  kv : es.toList.map (fun e => (e.key, e.val)) = ks.map (fun p => (encO p.1, p.2))
  one : ∀ i j (hi : i < es.size) (hj : j < es.size), es[i].born = es[j].born → i = j
  old : ∀ i (hi : i < es.size), es[i].born < clock
/-- Block b is a map from pairs of numbers; it reads as m. -/
def OMap (w : World) (b : Nat) (m : Int × Int → Option Value) : Prop :=
  ∃ (es : Array MapEntry) (clock : Nat) (ks : List ((Int × Int) × Value)), w.heap[b]? = some (.map es clock) ∧ ORep es clock ks ∧ ∀ a, lookO ks a = m a
/-- So does it, and the entry of a was born at st. -/
def OEnt (w : World) (b : Nat) (m : Int × Int → Option Value) (a : Int × Int) (st : Int) : Prop :=
  ∃ (es : Array MapEntry) (clock : Nat) (ks : List ((Int × Int) × Value)) (i : Nat) (hi : i < es.size), w.heap[b]? = some (.map es clock) ∧ ORep es clock ks ∧ (∀ a, lookO ks a = m a) ∧ (es[i].born : Int) = st ∧ (ks[i]?).map (·.1) = some a ∧
    ∀ a' x, lookO (ks.set i (a, x)) a' = if a' = a then some x else lookO ks a'

theorem idxO_val (ks : List ((Int × Int) × Value)) (a : Int × Int) : ∀ i, (idxO ks a i).map (·.2) = lookO ks a := by
  induction ks with
  | nil => intro i; rfl
  | cons p ks ih =>
    intro i
    unfold idxO lookO
    split
    · rfl
    · exact ih _
theorem idxO_some (ks : List ((Int × Int) × Value)) (a : Int × Int) : ∀ i j v, idxO ks a i = some (j, v) → ∃ k, j = i + k ∧ k < ks.length ∧ (ks[k]?).map (·.1) = some a ∧ ∀ a' x, lookO (ks.set k (a, x)) a' = if a' = a then some x else lookO ks a' := by
  induction ks with
  | nil => intro i j v h; cases h
  | cons p ks ih =>
    intro i j v h
    unfold idxO at h
    split at h
    · rename_i e
      cases h
      refine ⟨0, rfl, by simp, by simp [e], fun a' x => ?_⟩
      simp only [List.set_cons_zero, lookO, e]
      split <;> rfl
    · rename_i e
      obtain ⟨k, rfl, h2, h3, h4⟩ := ih _ _ _ h
      refine ⟨k + 1, by omega, by simpa using h2, by simpa using h3, fun a' x => ?_⟩
      simp only [List.set_cons_succ, lookO, h4]
      split
      · rename_i e2; subst e2; rw [if_neg (fun h => e h.symm)]
      · rfl
theorem idxO_none (ks : List ((Int × Int) × Value)) (a : Int × Int) : ∀ i, idxO ks a i = none → ∀ a' x, lookO (ks ++ [(a, x)]) a' = if a' = a then some x else lookO ks a' := by
  induction ks with
  | nil => intro i _ a' x; simp [lookO]
  | cons p ks ih =>
    intro i h a' x
    unfold idxO at h
    split at h
    · cases h
    · rename_i e
      simp only [List.cons_append, lookO, ih _ h]
      split
      · rename_i e2; subst e2; rw [if_neg (fun h => e h.symm)]
      · rfl

/-- What the laws ask of the key's type. -/
structure KeyT (P : Program) (k : TypeId) : Prop where
  und : ∃ fs, P.underlying k = some (.struct fs)
  eq : ∀ (a b : Int × Int) (w : World), (Op.equal k (encO a) (encO b)).run P w = .ok (decide (a = b)) w
  chk : ∀ (a : Int × Int) (e : Bool) (w : World), (Instr.checkKey e 10000 k (encO a)).run P w = .ok () w

section
variable {P : Program} {w w' : World} {b : Nat} {m : Int × Int → Option Value}
theorem OMap.lt (h : OMap w b m) : b < w.heap.size := by obtain ⟨_, _, _, hb, _⟩ := h; exact lt_of_heap hb
theorem OMap.new (w : World) : OMap (w.alloc (.map #[] 0)) w.heap.size (fun _ => none) := ⟨#[], 0, [], heap_alloc_new w _, ⟨rfl, by simp, by simp⟩, fun _ => rfl⟩
theorem OMap.upd {S : Nat → Prop} (h : OMap w b m) (u : Upd S w w') (hS : ¬ S b) : OMap w' b m := by
  obtain ⟨es, clock, ks, hb, h1, h2⟩ := h
  exact ⟨es, clock, ks, (u.block b (lt_of_heap hb) hS).trans hb, h1, h2⟩
theorem OEnt.upd {S : Nat → Prop} {a : Int × Int} {st : Int} (h : OEnt w b m a st) (u : Upd S w w') (hS : ¬ S b) : OEnt w' b m a st := by
  obtain ⟨es, clock, ks, i, hi, hb, h⟩ := h
  exact ⟨es, clock, ks, i, hi, (u.block b (lt_of_heap hb) hS).trans hb, h⟩
theorem OEnt.lt {a : Int × Int} {st : Int} (h : OEnt w b m a st) : b < w.heap.size := by obtain ⟨_, _, _, _, _, hb, _⟩ := h; exact lt_of_heap hb

theorem asking_O {k : TypeId} (K : KeyT P k) (a : Int × Int) : ∀ (es : List MapEntry) (ks : List ((Int × Int) × Value)) (i : Nat), es.map (fun e => (e.key, e.val)) = ks.map (fun p => (encO p.1, p.2)) →
    (Instr.findAsking k (encO a) es i).run P w = .ok (idxO ks a i) w := by
  intro es
  induction es with
  | nil =>
    intro ks i h
    have : ks = [] := by simpa using h.symm
    subst this
    rfl
  | cons e es ih =>
    intro ks i h
    match ks, h with
    | p :: ks, h =>
      simp only [List.map_cons, List.cons.injEq, Prod.mk.injEq] at h
      obtain ⟨⟨h1, h2⟩, h3⟩ := h
      unfold Instr.findAsking idxO
      simp only [Sem.run_bind, h1, K.eq, Result.andThen_ok]
      by_cases hd : a = p.1
      · simp [hd, h2]
      · simp [hd, ih ks (i + 1) h3]
theorem find_O {k : TypeId} (K : KeyT P k) (a : Int × Int) (es : List MapEntry) (ks : List ((Int × Int) × Value)) (h : es.map (fun e => (e.key, e.val)) = ks.map (fun p => (encO p.1, p.2))) :
    (Instr.findKey k (encO a) es).run P w = .ok (idxO ks a 0) w := by
  obtain ⟨fs, hU⟩ := K.und
  have hA := asking_O (w := w) K a es ks 0 h
  unfold Instr.findKey
  simp only [Sem.run_bind, run_underlying hU, Result.andThen_ok]
  match es, ks, h with
  | [], [], _ => rfl
  | e :: es, p :: ks, h =>
    have : Instr.findNow (.struct fs) (encO a) (e :: es) 0 = none := by simp [Instr.findNow, Instr.sameNow]
    rw [this]
    exact hA

theorem OMap.look1 {t k e : TypeId} (ht : P.underlying t = some (.map k e)) (K : KeyT P k) {z : Value} (hz : (zeroValue e).run P w = .ok z w) (h : OMap w b m) (a : Int × Int) :
    (Instr.lookup t (.map (some b)) (encO a) false).run P w = .ok ((m a).getD z) w := by
  obtain ⟨es, clock, ks, hb, h1, h2⟩ := h
  have hf := find_O (w := w) K a es.toList ks h1.kv
  have hg : (getObj b).run P w = .ok (.map es clock) w := by simp [getObj, Sem.run, hb]
  rw [← h2 a, ← idxO_val ks a 0]
  cases hr : idxO ks a 0 with
  | none => simp [Instr.lookup, run_underlying ht, hg, K.chk, hf, hr, hz]
  | some p => simp [Instr.lookup, run_underlying ht, hg, K.chk, hf, hr]

theorem OMap.entry {t k e : TypeId} (ht : P.underlying t = some (.map k e)) (K : KeyT P k) {z : Value} (hz : (zeroValue e).run P w = .ok z w) (h : OMap w b m) (a : Int × Int) :
    ∃ w' st, (Instr.mapEntry t (.map (some b)) (encO a)).run P w = .ok (.tuple #[(m a).getD z, .int .i64 st]) w' ∧ OEnt w' b (fun x => if x = a then some ((m a).getD z) else m x) a st ∧ Upd (· = b) w w' := by
  obtain ⟨es, clock, ks, hb, h1, h2⟩ := h
  have hf := find_O (w := w) K a es.toList ks h1.kv
  have hg : (getObj b).run P w = .ok (.map es clock) w := by simp [getObj, Sem.run, hb]
  have hset : ∀ o, (setObj b o).run P w = .ok () { w with heap := w.heap.setIfInBounds b o } := fun o => by simp [setObj, Sem.run, hb]
  have hU : ∀ o, Upd (· = b) w { w with heap := w.heap.setIfInBounds b o } := fun o => ⟨rfl, rfl, rfl, by simp, fun j hj hne => by simp [Ne.symm hne]⟩
  have hlt := lt_of_heap hb
  have hlen : es.toList.length = ks.length := by simpa using congrArg List.length h1.kv
  have hv := idxO_val ks a 0
  rw [h2 a] at hv
  cases hr : idxO ks a 0 with
  | none =>
    rw [hr] at hv
    have hm : m a = none := hv.symm
    refine ⟨{ w with heap := w.heap.setIfInBounds b (.map (es.push { key := encO a, val := z, born := clock }) (clock + 1)) }, clock, by simp [Instr.mapEntry, run_underlying ht, hg, K.chk, hf, hr, hset, hz, hm, goInt], ?_, hU _⟩
    have hl0 := idxO_none ks a 0 hr
    refine ⟨es.push { key := encO a, val := z, born := clock }, clock + 1, ks ++ [(a, z)], es.size, by simp, by simp [hlt], ⟨by simp [h1.kv], ?_, ?_⟩, fun a' => ?_, by simp, ?_, fun a' x => ?_⟩
    · intro i j hi hj he
      simp only [Array.size_push] at hi hj
      rw [Array.getElem_push, Array.getElem_push] at he
      split at he <;> split at he
      · exact h1.one i j _ _ he
      · rename_i q _; have := h1.old i q; simp at he; omega
      · rename_i _ q; have := h1.old j q; simp at he; omega
      · omega
    · intro i hi
      simp only [Array.size_push] at hi
      rw [Array.getElem_push]
      split
      · rename_i q; have := h1.old i q; omega
      · simp
    · rw [hl0, hm]; simp only [h2]; rfl
    · have : es.size = ks.length := by simpa using hlen
      rw [this]; simp
    · have : es.size = ks.length := by simpa using hlen
      rw [this, hl0]
      have e1 : (ks ++ [(a, z)]).set ks.length (a, x) = ks ++ [(a, x)] := by simp
      rw [e1, hl0]
      split <;> rfl
  | some p =>
    obtain ⟨j, v0⟩ := p
    obtain ⟨kk, hj, hkl, hkk, hmod⟩ := idxO_some ks a 0 j v0 hr
    have hj' : j = kk := by omega
    subst hj'
    rw [hr] at hv
    have hm : m a = some v0 := hv.symm
    have hjs : j < es.size := by simpa using (show j < es.toList.length by omega)
    have hkey0 : (es.toList[j]'(by simpa using hjs)).key = encO a := by
      have e1 := List.getElem_of_eq h1.kv (i := j) (by simpa using hjs)
      simp only [List.getElem_map, Prod.mk.injEq] at e1
      rw [List.getElem?_eq_getElem hkl] at hkk
      simp only [Option.map_some, Option.some.injEq] at hkk
      rw [e1.1, hkk]
    have hkey : es[j].key = encO a := by simpa using hkey0
    have hst : (Instr.keyThatStays (encO a) (encO a)).run P w = .ok (encO a) w := by simp [Instr.keyThatStays, Instr.sameBits, encO]
    have hmodE : (es.modify j fun e => { e with key := encO a }) = es := by
      apply Array.ext
      · simp
      · intro i hi hi'
        rw [Array.getElem_modify]
        split
        · rename_i q; subst q
          have : es[j] = es.toList[j]'(by simpa using hjs) := by simp
          rw [this]
          rw [← hkey0]
        · rfl
    refine ⟨{ w with heap := w.heap.setIfInBounds b (.map es clock) }, es[j].born, by simp [Instr.mapEntry, run_underlying ht, hg, K.chk, hf, hr, hkey, hst, hset, hmodE, hm, goInt, hjs], ?_, hU _⟩
    refine ⟨es, clock, ks, j, hjs, by simp [hlt], h1, fun a' => ?_, rfl, hkk, hmod⟩
    rw [h2, hm]
    simp only [Option.getD_some]
    split
    · rename_i q; rw [q, hm]
    · rfl

theorem OEnt.store {t : TypeId} {a : Int × Int} {st : Int} (h : OEnt w b m a st) (v : Value) :
    ∃ w', (Instr.entryStore t (.map (some b)) (.int .i64 st) v).run P w = .ok () w' ∧ OMap w' b (fun x => if x = a then some v else m x) ∧ Upd (· = b) w w' := by
  obtain ⟨es, clock, ks, i, hi, hb, h1, h2, h3, h4, h5⟩ := h
  have hg : (getObj b).run P w = .ok (.map es clock) w := by simp [getObj, Sem.run, hb]
  have hset : ∀ o, (setObj b o).run P w = .ok () { w with heap := w.heap.setIfInBounds b o } := fun o => by simp [setObj, Sem.run, hb]
  have hU : ∀ o, Upd (· = b) w { w with heap := w.heap.setIfInBounds b o } := fun o => ⟨rfl, rfl, rfl, by simp, fun j hj hne => by simp [Ne.symm hne]⟩
  have hlt := lt_of_heap hb
  have hlen : es.toList.length = ks.length := by simpa using congrArg List.length h1.kv
  have hidx : es.findIdx? (fun e => (e.born : Int) == st) = some i := by
    rw [Array.findIdx?_eq_some_iff_getElem]
    refine ⟨hi, by simpa using h3, fun j hj => ?_⟩
    intro hx
    have hx' : ((es[j]'(by omega)).born : Int) = st := by simpa using hx
    have := h1.one j i (by omega) hi (by omega)
    omega
  refine ⟨{ w with heap := w.heap.setIfInBounds b (.map (es.modify i fun e => { e with val := v }) clock) }, by simp [Instr.entryStore, hg, asInt, asIntOf, hidx, hset], ?_, hU _⟩
  refine ⟨es.modify i fun e => { e with val := v }, clock, ks.set i (a, v), by simp [hlt], ⟨?_, ?_, ?_⟩, fun a' => ?_⟩
  · rw [Array.toList_modify]
    apply List.ext_getElem
    · simp [hlen]
    · intro j hj hj'
      have e1 := List.getElem_of_eq h1.kv (i := j) (by simp at hj; simpa using hj)
      simp only [List.getElem_map, List.getElem_modify, List.getElem_set, Prod.mk.injEq] at e1 ⊢
      split
      · rename_i q; subst q
        rw [List.getElem?_eq_getElem (by simp at hj'; omega)] at h4
        simp only [Option.map_some, Option.some.injEq] at h4
        exact ⟨by rw [e1.1, h4], rfl⟩
      · exact e1
  · intro j k hj hk he
    simp only [Array.getElem_modify] at he
    refine h1.one j k (by simpa using hj) (by simpa using hk) ?_
    split at he <;> split at he <;> exact he
  · intro j hj
    rw [Array.getElem_modify]
    split <;> exact h1.old j (by simpa using hj)
  · rw [h5]
    simp only [h2]
end
end Go.Proofs.Ytigambcefdeaoaa
