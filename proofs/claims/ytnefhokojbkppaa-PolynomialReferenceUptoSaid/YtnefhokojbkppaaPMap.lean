/-
  Polynomials in memory: maps from strings to 64-bit words whose keys are distinct; what a store leaves.
-/
import Derived.Test.YtnefhokojbkppaaSMap
import Derived.Test.YtnefhokojbkppaaBase
import Derived.Maps.RangeRun
namespace Go.Proofs.Ytnefhokojbkppaa
open Go.RowKit

/-- The entries of a map from strings to words that reads as m; each key stands once. -/
structure PEs (es : List MapEntry) (clock : Nat) (m : ByteArray → Option Int) : Prop where
  ent : ∀ e ∈ es, ∃ s c, e.key = .string s ∧ e.val = .int .u64 c ∧ m s = some c ∧ e.born < clock
  has : ∀ s c, m s = some c → ∃ e ∈ es, e.key = .string s
  keys : (es.map (·.key)).Nodup
  borns : (es.map (·.born)).Nodup
/-- Block b is a map from strings to words; it reads as m. -/
def PMap (w : World) (b : Nat) (m : ByteArray → Option Int) : Prop := ∃ es clock, w.heap[b]? = some (.map es clock) ∧ PEs es.toList clock m
/-- A map with one more entry. -/
def putM (m : ByteArray → Option Int) (s : ByteArray) (c : Int) : ByteArray → Option Int := fun x => if x = s then some c else m x
theorem nodup_at {α : Type} {l : List α} (h : l.Nodup) {i j : Nat} (hi : i < l.length) (hj : j < l.length) (e : l[i] = l[j]) : i = j := by
  rcases Nat.lt_trichotomy i j with q | q | q
  · exact absurd e (List.pairwise_iff_getElem.1 h i j hi hj q)
  · exact q
  · exact absurd e.symm (List.pairwise_iff_getElem.1 h j i hj hi q)
theorem PEs.push {es : List MapEntry} {clock : Nat} {m : ByteArray → Option Int} (h : PEs es clock m) (s : ByteArray) (c : Int) (hs : m s = none) :
    PEs (es ++ [{ key := .string s, val := .int .u64 c, born := clock }]) (clock + 1) (putM m s c) := by
  obtain ⟨h1, h2, h3, h4⟩ := h
  refine ⟨fun e he => ?_, fun x d hx => ?_, ?_, ?_⟩
  · rcases List.mem_append.1 he with he | he
    · obtain ⟨x, d, a1, a2, a3, a4⟩ := h1 e he
      exact ⟨x, d, a1, a2, by unfold putM; rw [if_neg (fun q => by rw [q, hs] at a3; cases a3)]; exact a3, by omega⟩
    · simp only [List.mem_singleton] at he
      subst he
      exact ⟨s, c, rfl, rfl, by simp [putM], by simp⟩
  · unfold putM at hx
    split at hx
    · rename_i q; subst q
      exact ⟨{ key := .string x, val := .int .u64 c, born := clock }, by simp, rfl⟩
    · obtain ⟨e, he, q⟩ := h2 x d hx
      exact ⟨e, by simp [he], q⟩
  · rw [List.map_append]
    refine List.pairwise_append.2 ⟨h3, by simp, fun a ha b hb => ?_⟩
    simp only [List.map_cons, List.map_nil, List.mem_singleton] at hb
    subst hb
    obtain ⟨e, he, rfl⟩ := List.mem_map.1 ha
    obtain ⟨x, d, a1, a2, a3, a4⟩ := h1 e he
    intro q
    rw [a1] at q
    injection q with q
    rw [q, hs] at a3
    cases a3
  · rw [List.map_append]
    refine List.pairwise_append.2 ⟨h4, by simp, fun a ha b hb => ?_⟩
    simp only [List.map_cons, List.map_nil, List.mem_singleton] at hb
    subst hb
    obtain ⟨e, he, rfl⟩ := List.mem_map.1 ha
    obtain ⟨x, d, a1, a2, a3, a4⟩ := h1 e he
    omega
theorem PEs.modify {es : List MapEntry} {clock : Nat} {m : ByteArray → Option Int} (h : PEs es clock m) (s : ByteArray) (c : Int) {k : Nat} (hk : k < es.length) (hs : es[k].key = .string s) :
    PEs (es.modify k fun e => { e with key := .string s, val := .int .u64 c }) clock (putM m s c) := by
  obtain ⟨h1, h2, h3, h4⟩ := h
  have ek : (es.modify k fun e => { e with key := .string s, val := .int .u64 c }).map (·.key) = es.map (·.key) := by
    refine List.ext_getElem (by simp) fun i a b => ?_
    simp only [List.getElem_map, List.getElem_modify]
    split
    · rename_i q; subst q; exact hs.symm
    · rfl
  have eb : (es.modify k fun e => { e with key := .string s, val := .int .u64 c }).map (·.born) = es.map (·.born) := by
    refine List.ext_getElem (by simp) fun i a b => ?_
    simp only [List.getElem_map, List.getElem_modify]
    split <;> rfl
  refine ⟨fun e he => ?_, fun x d hx => ?_, by rw [ek]; exact h3, by rw [eb]; exact h4⟩
  · obtain ⟨i, hi, rfl⟩ := List.mem_iff_getElem.1 he
    have hi' : i < es.length := by simpa using hi
    rw [List.getElem_modify]
    obtain ⟨x, d, a1, a2, a3, a4⟩ := h1 es[i] (List.getElem_mem hi')
    split
    · exact ⟨s, c, rfl, rfl, by simp [putM], a4⟩
    · rename_i q
      refine ⟨x, d, a1, a2, ?_, a4⟩
      unfold putM
      rw [if_neg]
      · exact a3
      · rintro rfl
        exact q (nodup_at h3 (i := k) (j := i) (by simpa using hk) (by simpa using hi') (by simp [hs, a1]))
  · have hx' : ∃ e ∈ es, e.key = .string x := by
      unfold putM at hx
      split at hx
      · rename_i q; subst q
        exact ⟨es[k], List.getElem_mem hk, hs⟩
      · exact h2 x d hx
    obtain ⟨e, he, q⟩ := hx'
    have : Value.string x ∈ (es.modify k fun e => { e with key := .string s, val := .int .u64 c }).map (·.key) := by
      rw [ek]; exact List.mem_map.2 ⟨e, he, q⟩
    obtain ⟨e', he', q'⟩ := List.mem_map.1 this
    exact ⟨e', he', q'⟩
section
variable {P : Program} {w w' : World} {b : Nat} {m : ByteArray → Option Int}
theorem PMap.lt (h : PMap w b m) : b < w.heap.size := by obtain ⟨_, _, hb, _⟩ := h; exact lt_of_heap hb
theorem PMap.new (w : World) : PMap (w.alloc (.map #[] 0)) w.heap.size (fun _ => none) := ⟨#[], 0, heap_alloc_new w _, by simp, by simp, by simp, by simp⟩
theorem PMap.upd {S : Nat → Prop} (h : PMap w b m) (u : Upd S w w') (hS : ¬ S b) : PMap w' b m := by
  obtain ⟨es, clock, hb, h1⟩ := h
  exact ⟨es, clock, (u.block b (lt_of_heap hb) hS).trans hb, h1⟩
theorem lookS_mem : ∀ {es : List MapEntry} {s : ByteArray} {v : Value}, lookS es s = some v → ∃ e ∈ es, e.key = .string s ∧ e.val = v
  | [], _, _, h => by simp [lookS] at h
  | e :: es, s, v, h => by
    simp only [lookS] at h
    split at h
    · rename_i k hk
      split at h
      · rename_i hs
        subst hs
        exact ⟨e, by simp, hk, by simpa using h⟩
      · obtain ⟨x, hx, h1, h2⟩ := lookS_mem h
        exact ⟨x, by simp [hx], h1, h2⟩
    · obtain ⟨x, hx, h1, h2⟩ := lookS_mem h
      exact ⟨x, by simp [hx], h1, h2⟩
theorem lookS_none : ∀ {es : List MapEntry} {s : ByteArray}, lookS es s = none → ∀ e ∈ es, e.key ≠ .string s
  | [], _, _, e, he => by simp at he
  | x :: es, s, h, e, he => by
    simp only [lookS] at h
    rcases List.mem_cons.1 he with rfl | he
    · intro hk
      rw [hk] at h
      simp at h
    · split at h
      · split at h
        · simp at h
        · exact lookS_none h e he
      · exact lookS_none h e he
/-- What is stored. -/
theorem PMap.store {t k e : TypeId} (ht : P.underlying t = some (.map k e)) (hk : P.underlying k = some .string) (h : PMap w b m) (s : ByteArray) (c : Int) :
    ∃ w', (Instr.mapUpdate t (.map (some b)) (.string s) (.int .u64 c)).run P w = .ok () w' ∧ PMap w' b (putM m s c) ∧ Upd (· = b) w w' := by
  obtain ⟨es, clock, hb, hp⟩ := h
  have h1 : ∀ e ∈ es.toList, ∃ s, e.key = .string s := fun e he => by obtain ⟨s, c, q, _⟩ := hp.ent e he; exact ⟨s, q⟩
  obtain ⟨r, hr, hm, h3, h4⟩ := findNow_str s es.toList 0 h1
  have hg : (getObj b).run P w = .ok (.map es clock) w := by simp [getObj, Sem.run, hb]
  have hset : ∀ o, (setObj b o).run P w = .ok () { w with heap := w.heap.setIfInBounds b o } := fun o => by simp [setObj, Sem.run, hb]
  have hU : ∀ o, Upd (· = b) w { w with heap := w.heap.setIfInBounds b o } := fun o => ⟨rfl, rfl, rfl, by simp, fun j hj hne => by simp [Ne.symm hne]⟩
  have hlt := lt_of_heap hb
  cases r with
  | none =>
    refine ⟨{ w with heap := w.heap.setIfInBounds b (.map (es.push { key := .string s, val := .int .u64 c, born := clock }) (clock + 1)) }, by simp [Instr.mapUpdate, run_underlying ht, hg, checkKey_string hk, Instr.findKey, run_underlying hk, hr, hset], ?_, hU _⟩
    refine ⟨es.push { key := .string s, val := .int .u64 c, born := clock }, clock + 1, by simp [hlt], ?_⟩
    rw [Array.toList_push]
    refine hp.push s c ?_
    cases hms : m s with
    | none => rfl
    | some d =>
      obtain ⟨e, he, q⟩ := hp.has s d hms
      exact absurd q (lookS_none (es := es.toList) (by rw [← hm]; rfl) e he)
  | some p =>
    obtain ⟨j, v0⟩ := p
    obtain ⟨kk, hj, hkl, hkk, hmod⟩ := h3 j v0 rfl
    have hj' : j = kk := by omega
    subst hj'
    have hkey : ((es[j]?).map (·.key)).getD (.string s) = .string s := by
      have : es.toList[j]? = es[j]? := by simp
      rw [← this, hkk]; rfl
    have hst : (Instr.keyThatStays (.string s) (.string s)).run P w = .ok (.string s) w := by simp [Instr.keyThatStays, Instr.sameBits, ba_beq]
    refine ⟨{ w with heap := w.heap.setIfInBounds b (.map (es.modify j fun e => { e with key := .string s, val := .int .u64 c }) clock) }, by simp [Instr.mapUpdate, run_underlying ht, hg, checkKey_string hk, Instr.findKey, run_underlying hk, hr, hkey, hst, hset], ?_, hU _⟩
    refine ⟨es.modify j fun e => { e with key := .string s, val := .int .u64 c }, clock, by simp [hlt], ?_⟩
    rw [Array.toList_modify]
    refine hp.modify s c hkl ?_
    rw [List.getElem?_eq_getElem hkl] at hkk
    simpa using hkk
/-- It is a map that reads so. -/
theorem PMap.smap (h : PMap w b m) : SMap w b (fun s => (m s).map (Value.int .u64)) := by
  obtain ⟨es, clock, hb, h1, h2, h3, h4⟩ := h
  refine ⟨es, clock, hb, fun e he => by obtain ⟨s, c, hk, _⟩ := h1 e he; exact ⟨s, hk⟩, fun s => ?_⟩
  cases hm : m s with
  | none =>
    cases hl : lookS es.toList s with
    | none => simp [hm]
    | some v =>
      obtain ⟨e, he, hk, hv⟩ := lookS_mem hl
      obtain ⟨s', c, hk', _, hmc, _⟩ := h1 e he
      rw [hk] at hk'
      injection hk' with hk'
      rw [← hk', hm] at hmc
      cases hmc
  | some c =>
    cases hl : lookS es.toList s with
    | none =>
      obtain ⟨e, he, hk⟩ := h2 s c hm
      exact absurd hk (lookS_none hl e he)
    | some v =>
      obtain ⟨e, he, hk, hv⟩ := lookS_mem hl
      obtain ⟨s', c', hk', hv', hmc, _⟩ := h1 e he
      rw [hk] at hk'
      injection hk' with hk'
      rw [← hk', hm] at hmc
      injection hmc with hmc
      rw [← hv, hv', ← hmc]
      simp [hm]
/-- An iterator in block r over the map in block b: L has been handed out, n entries are left. -/
def PIter (w : World) (r b : Nat) (m : ByteArray → Option Int) (L : List (ByteArray × Int)) (n : Nat) : Prop :=
  ∃ (es : Array MapEntry) (clock : Nat) (seen : Array Nat) (since c0 : Nat) (Le : List MapEntry), w.heap[b]? = some (.map es clock) ∧ PEs es.toList clock m ∧ w.heap[r]? = some (.mapIter (some b) since seen c0) ∧ since ≤ c0 ∧ since ≤ clock ∧
    (∀ e ∈ es.toList, e.born < since) ∧ (∀ e ∈ Le, e ∈ es.toList) ∧ seen.toList = Le.map (·.born) ∧ (Le.map (·.born)).Nodup ∧ L.map (fun x => (Value.string x.1, Value.int .u64 x.2)) = Le.map (fun e => (e.key, e.val)) ∧ Le.length + n = es.size
theorem PIter.lt {r : Nat} {L : List (ByteArray × Int)} {n : Nat} (h : PIter w r b m L n) : r < w.heap.size ∧ b < w.heap.size := by
  obtain ⟨es, clock, seen, since, c0, Le, hb, hp, hr, _⟩ := h
  exact ⟨lt_of_heap hr, lt_of_heap hb⟩
theorem PIter.upd {S : Nat → Prop} {r : Nat} {L : List (ByteArray × Int)} {n : Nat} (h : PIter w r b m L n) (u : Upd S w w') (hS : ¬ S b) (hr : ¬ S r) : PIter w' r b m L n := by
  obtain ⟨es, clock, seen, since, c0, Le, h1, h2, h3, h4⟩ := h
  exact ⟨es, clock, seen, since, c0, Le, (u.block b (lt_of_heap h1) hS).trans h1, h2, (u.block r (lt_of_heap h3) hr).trans h3, h4⟩
theorem PIter.pmap {r : Nat} {L : List (ByteArray × Int)} {n : Nat} (h : PIter w r b m L n) : PMap w b m := by
  obtain ⟨es, clock, seen, since, c0, Le, h1, h2, _⟩ := h
  exact ⟨es, clock, h1, h2⟩
/-- 'range m'. -/
theorem PMap.range {t k e : TypeId} (ht : P.underlying t = some (.map k e)) (h : PMap w b m) :
    ∃ n o, (Instr.range t (.map (some b))).run P w = .ok (.pointer (some ⟨w.heap.size, 0, none⟩)) (w.alloc o) ∧ PIter (w.alloc o) w.heap.size b m [] n := by
  obtain ⟨es, clock, hb, hp⟩ := h
  refine ⟨es.size, _, run_range_map w t k e b es clock ht hb, es, clock, #[], clock, clock, [], (Upd.refl (S := Non)).alloc _ |>.block b (lt_of_heap hb) (fun f => f) |>.trans hb, hp, heap_alloc_new w _, Nat.le_refl _, Nat.le_refl _, fun e he => ?_, by simp, by simp, by simp, by simp, by simp⟩
  obtain ⟨s, c, _, _, _, q⟩ := hp.ent e he
  exact q
theorem nodup_le : ∀ {a l : List Nat}, a.Nodup → (∀ x ∈ a, x ∈ l) → a.length ≤ l.length
  | [], _, _, _ => by simp
  | x :: a, l, h, hs => by
    have hx : x ∈ l := hs x (by simp)
    have h2 := List.nodup_cons.1 h
    have := nodup_le (l := l.erase x) h2.2 (fun y hy => (List.mem_erase_of_ne (fun q => h2.1 (by rw [← q]; exact hy))).2 (hs y (by simp [hy])))
    have hl := List.length_erase_of_mem hx
    have h0 : 0 < l.length := List.length_pos_of_mem hx
    simp only [List.length_cons]
    omega
/-- The step. -/
theorem PIter.next {r : Nat} {L : List (ByteArray × Int)} {n : Nat} (h : PIter w r b m L n) (ty : TypeId) :
    ((Instr.next (.pointer (some ⟨r, 0, none⟩)) false ty).run P w = .ok (.tuple #[.bool false]) w ∧ (∀ s c, m s = some c → (s, c) ∈ L)) ∨
    ∃ s c n' w2, n = n' + 1 ∧ m s = some c ∧ (∀ x ∈ L, x.1 ≠ s) ∧ (Instr.next (.pointer (some ⟨r, 0, none⟩)) false ty).run P w = .ok (.tuple #[.bool true, .string s, .int .u64 c]) w2 ∧ Upd (· = r) w w2 ∧ PIter w2 r b m (L ++ [(s, c)]) n' ∧
      (Instr.entry (.pointer (some ⟨r, 0, none⟩))).run P w2 = .ok (.tuple #[.string s, .int .u64 c]) w2 := by
  obtain ⟨es, clock, seen, since, c0, Le, hb, hp, hr, hsc, hsc2, hold, hLe, hseen, hnd, hL, hn⟩ := h
  have hmem : ∀ e : MapEntry, e ∈ (leftOf es seen).toList ↔ e ∈ es.toList ∧ e.born ∉ Le.map (·.born) := by
    intro e
    rw [← hseen]
    unfold leftOf
    simp
  rcases run_next_at (P := P) w ty r b since c0 seen es clock hr hb hold hsc with ⟨h0, hrun⟩ | ⟨e, he, w1, hw1, hrun⟩
  · left
    refine ⟨hrun, fun s c hm => ?_⟩
    obtain ⟨e, he, hk⟩ := hp.has s c hm
    have hin : e.born ∈ Le.map (·.born) := by
      refine Decidable.byContradiction fun q => ?_
      have := (hmem e).2 ⟨he, q⟩
      rw [Array.eq_empty_of_size_eq_zero h0] at this
      simp at this
    obtain ⟨e', he', hb'⟩ := List.mem_map.1 hin
    have hee : e' = e := by
      obtain ⟨i, hi, rfl⟩ := List.mem_iff_getElem.1 he
      obtain ⟨j, hj, hj'⟩ := List.mem_iff_getElem.1 (hLe e' he')
      have := nodup_at hp.borns (i := j) (j := i) (by simpa using hj) (by simpa using hi) (by simp only [List.getElem_map]; rw [hj', hb'])
      subst this
      exact hj'.symm
    subst hee
    have : (e'.key, e'.val) ∈ Le.map (fun e => (e.key, e.val)) := List.mem_map.2 ⟨e', he', rfl⟩
    rw [← hL] at this
    obtain ⟨x, hx, hx'⟩ := List.mem_map.1 this
    obtain ⟨s', c', a1, a2, a3, _⟩ := hp.ent e' he
    injection hx' with q1 q2
    rw [hk] at q1 a1
    rw [a2] at q2
    injection q1 with q1
    injection q2 with _ q2
    injection a1 with a1
    rw [← a1, hm] at a3
    injection a3 with a3
    rw [← q1, a3, ← q2]
    exact hx
  · right
    obtain ⟨hes, hnot⟩ := (hmem e).1 he
    obtain ⟨s, c, a1, a2, a3, a4⟩ := hp.ent e hes
    have hnd2 : ((Le ++ [e]).map (·.born)).Nodup := by
      rw [List.map_append]
      refine List.pairwise_append.2 ⟨hnd, by simp, fun x hx y hy => ?_⟩
      simp only [List.map_cons, List.map_nil, List.mem_singleton] at hy
      subst hy
      intro q
      exact hnot (by rw [← q]; exact hx)
    have hlen := nodup_le (l := es.toList.map (·.born)) hnd2 (fun x hx => by
      obtain ⟨y, hy, rfl⟩ := List.mem_map.1 hx
      rcases List.mem_append.1 hy with hy | hy
      · exact List.mem_map.2 ⟨y, hLe y hy, rfl⟩
      · simp only [List.mem_singleton] at hy
        subst hy
        exact List.mem_map.2 ⟨_, hes, rfl⟩)
    simp only [List.length_map, List.length_append, List.length_cons, List.length_nil, Array.length_toList] at hlen
    have hrb : r ≠ b := by
      intro q
      rw [q, hb] at hr
      cases hr
    have hr1 : w1.heap = w.heap := by rcases hw1 with rfl | rfl <;> rfl
    have hU : Upd (· = r) w (ChangeMaps.setBlock w1 r (.mapIter (some b) since (seen.push e.born) clock)) := by
      have u1 : Upd (· = r) w w1 := by
        rcases hw1 with rfl | rfl
        · exact Upd.refl
        · exact Upd.refl.drew
      refine u1.trans ⟨rfl, rfl, rfl, by simp [ChangeMaps.setBlock], fun j hj hne => by simp [ChangeMaps.setBlock, Ne.symm hne]⟩ (fun k _ q => q)
    have hb2 : (ChangeMaps.setBlock w1 r (.mapIter (some b) since (seen.push e.born) clock)).heap[b]? = some (.map es clock) := (hU.block b (lt_of_heap hb) (Ne.symm hrb)).trans hb
    have hr2 : (ChangeMaps.setBlock w1 r (.mapIter (some b) since (seen.push e.born) clock)).heap[r]? = some (.mapIter (some b) since (seen.push e.born) clock) := by
      have := lt_of_heap hr
      simp [ChangeMaps.setBlock, hr1, this]
    refine ⟨s, c, n - 1, _, by omega, a3, fun x hx => ?_, by rw [hrun, a1, a2], hU, ⟨es, clock, seen.push e.born, since, clock, Le ++ [e], hb2, hp, hr2, hsc2, hsc2, hold, fun x hx => ?_, by simp [hseen], hnd2, by simp [hL, a1, a2], by simp; omega⟩, by rw [run_entry_at _ r b since seen es clock e hr2 hb2 hes hp.borns, a1, a2]⟩
    · intro q
      have : (Value.string x.1, Value.int .u64 x.2) ∈ Le.map (fun e => (e.key, e.val)) := by rw [← hL]; exact List.mem_map.2 ⟨x, hx, rfl⟩
      obtain ⟨e', he', q'⟩ := List.mem_map.1 this
      injection q' with q1 q2
      obtain ⟨i, hi, hi'⟩ := List.mem_iff_getElem.1 hes
      obtain ⟨j, hj, hj'⟩ := List.mem_iff_getElem.1 (hLe e' he')
      have := nodup_at hp.keys (i := j) (j := i) (by simpa using hj) (by simpa using hi) (by simp only [List.getElem_map]; rw [hi', hj', q1, a1, q])
      subst this
      rw [hj'] at hi'
      subst hi'
      exact hnot (List.mem_map.2 ⟨e', he', rfl⟩)
    · rcases List.mem_append.1 hx with hx | hx
      · exact hLe x hx
      · simp only [List.mem_singleton] at hx
        subst hx
        exact hes
/-- What has been handed out stands in the map, each key once. -/
theorem PIter.some_ {r : Nat} {L : List (ByteArray × Int)} {n : Nat} (h : PIter w r b m L n) : ∀ x ∈ L, m x.1 = some x.2 := by
  obtain ⟨es, clock, seen, since, c0, Le, hb, hp, hr, hsc, hsc2, hold, hLe, hseen, hnd, hL, hn⟩ := h
  intro x hx
  have : (Value.string x.1, Value.int .u64 x.2) ∈ Le.map (fun e => (e.key, e.val)) := by rw [← hL]; exact List.mem_map.2 ⟨x, hx, rfl⟩
  obtain ⟨e', he', q'⟩ := List.mem_map.1 this
  injection q' with q1 q2
  obtain ⟨s, c, a1, a2, a3, _⟩ := hp.ent e' (hLe e' he')
  rw [a1] at q1
  rw [a2] at q2
  injection q1 with q1
  injection q2 with _ q2
  rw [← q1, ← q2]
  exact a3
end
end Go.Proofs.Ytnefhokojbkppaa
