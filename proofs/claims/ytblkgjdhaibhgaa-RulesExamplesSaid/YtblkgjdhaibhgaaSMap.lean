/-
  Maps with string keys, over any program: what a look-up gives, what a store leaves. No condition of its own.
-/
import Derived.Test.YtblkgjdhaibhgaaBase
namespace Go.Proofs.Ytblkgjdhaibhgaa
open Go.RowKit

theorem ba_beq (s q : ByteArray) : (s == q) = decide (s = q) := by
  rcases s with ⟨s⟩; rcases q with ⟨q⟩
  show (s == q) = _
  rw [Bool.eq_iff_iff]
  simp

def lookS : List MapEntry → ByteArray → Option Value
  | [], _ => none
  | e :: es, s => match e.key with
    | .string k => if s = k then some e.val else lookS es s
    | _ => lookS es s

/-- Block b is a map from strings; it reads as m. -/
def SMap (w : World) (b : Nat) (m : ByteArray → Option Value) : Prop :=
  ∃ es clock, w.heap[b]? = some (.map es clock) ∧ (∀ e ∈ es.toList, ∃ s, e.key = .string s) ∧ ∀ s, lookS es.toList s = m s

section
variable {P : Program} {w w' : World} {b : Nat} {m : ByteArray → Option Value}

theorem SMap.lt (h : SMap w b m) : b < w.heap.size := by obtain ⟨_, _, hb, _⟩ := h; exact lt_of_heap hb
theorem SMap.new (w : World) : SMap (w.alloc (.map #[] 0)) w.heap.size (fun _ => none) := ⟨#[], 0, heap_alloc_new w _, by simp, fun _ => rfl⟩
theorem SMap.upd {S : Nat → Prop} (h : SMap w b m) (u : Upd S w w') (hS : ¬ S b) : SMap w' b m := by
  obtain ⟨es, clock, hb, h1, h2⟩ := h
  exact ⟨es, clock, (u.block b (lt_of_heap hb) hS).trans hb, h1, h2⟩

theorem findNow_str (s : ByteArray) : ∀ (es : List MapEntry) (i : Nat), (∀ e ∈ es, ∃ s, e.key = .string s) → ∃ r, Instr.findNow .string (.string s) es i = some r ∧ r.map (·.2) = lookS es s ∧
    (∀ j v, r = some (j, v) → ∃ k, j = i + k ∧ k < es.length ∧ (es[k]?).map (·.key) = some (.string s) ∧ ∀ s' x, lookS (es.modify k fun e => { e with key := .string s, val := x }) s' = if s' = s then some x else lookS es s') ∧
    (r = none → ∀ s' x c, lookS (es ++ [{ key := .string s, val := x, born := c }]) s' = if s' = s then some x else lookS es s') := by
  intro es
  induction es with
  | nil =>
    intro i _
    refine ⟨none, rfl, rfl, by simp, fun _ s' x c => ?_⟩
    simp only [List.nil_append, lookS]
  | cons e es ih =>
    intro i hk
    obtain ⟨q, hq⟩ := hk e (by simp)
    obtain ⟨r, h1, h2, h3, h4⟩ := ih (i + 1) (fun x hx => hk x (by simp [hx]))
    by_cases he : s = q
    · subst he
      refine ⟨some (i, e.val), by simp [Instr.findNow, Instr.sameNow, hq, ba_beq], by simp [lookS, hq], ?_, by simp⟩
      rintro j v ⟨⟩
      refine ⟨0, rfl, by simp, by simp [hq], fun s' x => ?_⟩
      simp only [List.modify_zero_cons, lookS, hq]
      split <;> simp_all
    · have hb : (s == q) = false := by simpa [ba_beq] using he
      refine ⟨r, by simp [Instr.findNow, Instr.sameNow, hq, hb, h1], by simp [lookS, hq, he, h2], ?_, ?_⟩
      · rintro j v rfl
        obtain ⟨k, rfl, hkl, hkk, hm⟩ := h3 j v rfl
        refine ⟨k + 1, by omega, by simpa using hkl, by simpa using hkk, fun s' x => ?_⟩
        simp only [List.modify_succ_cons, lookS, hq, hm]
        split
        · rename_i e2; subst e2
          rw [if_neg (fun h => he h.symm)]
        · rfl
      · intro hr s' x c
        simp only [List.cons_append, lookS, hq, h4 hr]
        split
        · rename_i e2; subst e2
          rw [if_neg (fun h => he h.symm)]
        · rfl

theorem checkKey_string {k : TypeId} (hk : P.underlying k = some .string) (b : Bool) (n : Nat) (s : ByteArray) : (Instr.checkKey b (n + 1) k (.string s)).run P w = .ok () w := by
  simp [Instr.checkKey, run_underlying hk]

theorem SMap.look {t k e : TypeId} (ht : P.underlying t = some (.map k e)) (hk : P.underlying k = some .string) {z : Value} (hz : (zeroValue e).run P w = .ok z w) (h : SMap w b m) (s : ByteArray) :
    (Instr.lookup t (.map (some b)) (.string s) true).run P w = .ok (.tuple #[(m s).getD z, .bool (m s).isSome]) w := by
  obtain ⟨es, clock, hb, h1, h2⟩ := h
  obtain ⟨r, hr, hm, _⟩ := findNow_str s es.toList 0 h1
  have hg : (getObj b).run P w = .ok (.map es clock) w := by simp [getObj, Sem.run, hb]
  rw [← h2 s, ← hm]
  cases r with
  | none => simp [Instr.lookup, run_underlying ht, run_underlying hk, hg, checkKey_string hk, Instr.findKey, hr, hz]
  | some p => simp [Instr.lookup, run_underlying ht, run_underlying hk, hg, checkKey_string hk, Instr.findKey, hr]

theorem SMap.look1 {t k e : TypeId} (ht : P.underlying t = some (.map k e)) (hk : P.underlying k = some .string) {z : Value} (hz : (zeroValue e).run P w = .ok z w) (h : SMap w b m) (s : ByteArray) :
    (Instr.lookup t (.map (some b)) (.string s) false).run P w = .ok ((m s).getD z) w := by
  obtain ⟨es, clock, hb, h1, h2⟩ := h
  obtain ⟨r, hr, hm, _⟩ := findNow_str s es.toList 0 h1
  have hg : (getObj b).run P w = .ok (.map es clock) w := by simp [getObj, Sem.run, hb]
  rw [← h2 s, ← hm]
  cases r with
  | none => simp [Instr.lookup, run_underlying ht, run_underlying hk, hg, checkKey_string hk, Instr.findKey, hr, hz]
  | some p => simp [Instr.lookup, run_underlying ht, run_underlying hk, hg, checkKey_string hk, Instr.findKey, hr]

theorem SMap.store {t k e : TypeId} (ht : P.underlying t = some (.map k e)) (hk : P.underlying k = some .string) (h : SMap w b m) (s : ByteArray) (v : Value) :
    ∃ w', (Instr.mapUpdate t (.map (some b)) (.string s) v).run P w = .ok () w' ∧ SMap w' b (fun x => if x = s then some v else m x) ∧ Upd (· = b) w w' := by
  obtain ⟨es, clock, hb, h1, h2⟩ := h
  obtain ⟨r, hr, hm, h3, h4⟩ := findNow_str s es.toList 0 h1
  have hg : (getObj b).run P w = .ok (.map es clock) w := by simp [getObj, Sem.run, hb]
  have hset : ∀ o, (setObj b o).run P w = .ok () { w with heap := w.heap.setIfInBounds b o } := fun o => by simp [setObj, Sem.run, hb]
  have hU : ∀ o, Upd (· = b) w { w with heap := w.heap.setIfInBounds b o } := fun o => ⟨rfl, rfl, rfl, by simp, fun j hj hne => by simp [Ne.symm hne]⟩
  have hlt := lt_of_heap hb
  cases r with
  | none =>
    refine ⟨{ w with heap := w.heap.setIfInBounds b (.map (es.push { key := .string s, val := v, born := clock }) (clock + 1)) }, by simp [Instr.mapUpdate, run_underlying ht, hg, checkKey_string hk, Instr.findKey, run_underlying hk, hr, hset], ?_, hU _⟩
    refine ⟨es.push { key := .string s, val := v, born := clock }, clock + 1, by simp [hlt], ?_, fun s' => ?_⟩
    · intro e he
      rw [Array.toList_push] at he
      rcases List.mem_append.1 he with he | he
      · exact h1 e he
      · simp at he; subst he; exact ⟨s, rfl⟩
    · rw [Array.toList_push, h4 rfl]
      simp only [h2]
  | some p =>
    obtain ⟨j, v0⟩ := p
    obtain ⟨kk, hj, hkl, hkk, hmod⟩ := h3 j v0 rfl
    have hj' : j = kk := by omega
    subst hj'
    have hkey : ((es[j]?).map (·.key)).getD (.string s) = .string s := by
      have : es.toList[j]? = es[j]? := by simp
      rw [← this, hkk]; rfl
    have hst : (Instr.keyThatStays (.string s) (.string s)).run P w = .ok (.string s) w := by simp [Instr.keyThatStays, Instr.sameBits, ba_beq]
    refine ⟨{ w with heap := w.heap.setIfInBounds b (.map (es.modify j fun e => { e with key := .string s, val := v }) clock) }, by simp [Instr.mapUpdate, run_underlying ht, hg, checkKey_string hk, Instr.findKey, run_underlying hk, hr, hkey, hst, hset], ?_, hU _⟩
    refine ⟨es.modify j fun e => { e with key := .string s, val := v }, clock, by simp [hlt], ?_, fun s' => ?_⟩
    · intro e he
      rw [Array.toList_modify] at he
      obtain ⟨i, hi, rfl⟩ := List.mem_iff_getElem.1 he
      rw [List.getElem_modify]
      split
      · exact ⟨s, rfl⟩
      · exact h1 _ (List.getElem_mem _)
    · rw [Array.toList_modify, hmod]
      simp only [h2]
end
end Go.Proofs.Ytblkgjdhaibhgaa
