/-
  sort.Strings of the library: the kit's contract, laid at this program; what it does to strings in a slice that the call owns. No condition of its own.
  Normal forms of polynomials, in plain terms: sorted, no zero coefficient; two that are equal modulo 2^64 are the same list. No condition of its own.
-/
import Derived.Test.YtnefhokojbkppaaPMul
import Derived.Shelf.Sort.Plain
import Derived.Shelf.Slices.In.SortNone2
import Derived.Test.YtnefhokojbkppaaPNrm
namespace Go.Proofs.Ytnefhokojbkppaa
open Go.RowKit Go.Shelf Go.Sort

def lays192_ren : Go.Shelf.Ren := ⟨fun | 192 => 26 | 190 => 48 | 125 => 68 | 258 => 67 | 128 => 84 | 129 => 85 | 302 => 75 | 303 => 76 | 304 => 77 | 305 => 78 | 306 => 79 | 307 => 80 | 308 => 81 | 309 => 82 | 310 => 83 | 333 => 86 | 329 => 87 | 330 => 88 | 334 => 89 | 335 => 90 | 336 => 91 | 344 => 92 | n => n, fun | 31 => 66 | 0 => 0 | 9 => 9 | 3 => 3 | 46 => 46 | 51 => 123 | 53 => 30 | 4 => 4 | 183 => 116 | 182 => 115 | 131 => 75 | 5 => 5 | 218 => 125 | 222 => 129 | 228 => 131 | 229 => 132 | n => n, fun | n => n⟩
theorem lays192 : Go.Proofs.Lays.n192 Try.prog lays192_ren := {
  mixed := by kernel_rfl
  f125 := Try.func68.trans (congrArg some (by kernel_rfl))
  f128 := Try.func84.trans (congrArg some (by kernel_rfl))
  f129 := Try.func85.trans (congrArg some (by kernel_rfl))
  f190 := Try.func48.trans (congrArg some (by kernel_rfl))
  f192 := Try.func26.trans (congrArg some (by kernel_rfl))
  f258 := Try.func67.trans (congrArg some (by kernel_rfl))
  f302 := Try.func75.trans (congrArg some (by kernel_rfl))
  f303 := Try.func76.trans (congrArg some (by kernel_rfl))
  f304 := Try.func77.trans (congrArg some (by kernel_rfl))
  f305 := Try.func78.trans (congrArg some (by kernel_rfl))
  f306 := Try.func79.trans (congrArg some (by kernel_rfl))
  f307 := Try.func80.trans (congrArg some (by kernel_rfl))
  f308 := Try.func81.trans (congrArg some (by kernel_rfl))
  f309 := Try.func82.trans (congrArg some (by kernel_rfl))
  f310 := Try.func83.trans (congrArg some (by kernel_rfl))
  f329 := Try.func87.trans (congrArg some (by kernel_rfl))
  f330 := Try.func88.trans (congrArg some (by kernel_rfl))
  f333 := Try.func86.trans (congrArg some (by kernel_rfl))
  f334 := Try.func89.trans (congrArg some (by kernel_rfl))
  f335 := Try.func90.trans (congrArg some (by kernel_rfl))
  f336 := Try.func91.trans (congrArg some (by kernel_rfl))
  f344 := Try.func92.trans (congrArg some (by kernel_rfl))
  t0 := Try.underlying0
  a0 := Try.isAgg0
  z0 := Try.sizeOf0
  v0 := Try.zeroValue0
  t3 := Try.underlying3
  a3 := Try.isAgg3
  z3 := Try.sizeOf3
  v3 := Try.zeroValue3
  t4 := Try.underlying4
  a4 := Try.isAgg4
  z4 := Try.sizeOf4
  v4 := Try.zeroValue4
  t5 := Try.underlying5
  a5 := Try.isAgg5
  z5 := Try.sizeOf5
  v5 := Try.zeroValue5
  t9 := Try.underlying9
  a9 := Try.isAgg9
  z9 := Try.sizeOf9
  v9 := Try.zeroValue9
  t31 := Try.underlying66
  a31 := Try.isAgg66
  z31 := Try.sizeOf66
  v31 := Try.zeroValue66
  t46 := Try.underlying46
  a46 := Try.isAgg46
  z46 := Try.sizeOf46
  v46 := Try.zeroValue46
  t51 := Try.underlying123
  a51 := Try.isAgg123
  z51 := Try.sizeOf123
  v51 := Try.zeroValue123
  t53 := Try.underlying30
  a53 := Try.isAgg30
  z53 := Try.sizeOf30
  v53 := Try.zeroValue30
  t131 := Try.underlying75
  a131 := Try.isAgg75
  z131 := Try.sizeOf75
  v131 := Try.zeroValue75
  t182 := Try.underlying115
  a182 := Try.isAgg115
  z182 := Try.sizeOf115
  v182 := Try.zeroValue115
  t183 := Try.underlying116
  a183 := Try.isAgg116
  z183 := Try.sizeOf116
  v183 := Try.zeroValue116
  t218 := Try.underlying125
  a218 := Try.isAgg125
  z218 := Try.sizeOf125
  v218 := Try.zeroValue125
  t222 := Try.underlying129
  a222 := Try.isAgg129
  z222 := Try.sizeOf129
  v222 := Try.zeroValue129
  t228 := Try.underlying131
  a228 := Try.isAgg131
  z228 := Try.sizeOf131
  v228 := Try.zeroValue131
  t229 := Try.underlying132
  a229 := Try.isAgg132
  z229 := Try.sizeOf132
  v229 := Try.zeroValue132 }

/-- Strings as cells. -/
def strCs (l : List Mon) : List Value := l.map encStr
theorem strCs_snoc (l : List Mon) (x : Mon) : strCs (l ++ [x]) = strCs l ++ [.string (kstr x)] := by simp [strCs, kstr]
def monSort (l : List Mon) : List Mon := l.mergeSort fun x y => decide (x ≤ y)
theorem upd_ahead (w : World) (n : Nat) {S : Nat → Prop} : Upd S w (Go.Sort.ahead w n) := ⟨rfl, rfl, rfl, Nat.le_refl _, fun _ _ _ => rfl⟩
theorem upd_grow (w : World) (os : Array Obj) {S : Nat → Prop} : Upd S w (Go.Sort.grow w os) := ⟨rfl, rfl, rfl, by simp [Go.Sort.grow], fun k hk _ => by simp [Go.Sort.grow, Array.getElem?_append, hk]⟩
theorem upd_putRow (w : World) (blk off : Nat) (d : Array Mon) : Upd (· = blk) w (putRow encStr w blk off d) := by
  refine ⟨rfl, rfl, rfl, by simp [putRow, mapBlock], fun k hk hne => ?_⟩
  simp only [putRow, mapBlock, Array.getElem?_modify]
  rw [if_neg (fun e => hne e.symm)]
set_option maxHeartbeats 1000000 in
theorem sortStrings_c (w : World) (A : Option Addr) (n c : Nat) (l : List Mon) (ho : Own w 9 1 A n c (strCs l)) (hn : n ≤ 1000000000000) :
    Calls Try.prog 26 #[.slice A n c] w fun e w' => e = .returned (.tuple #[]) ∧ Own w' 9 1 A n c (strCs (monSort l)) ∧ Upd (At A) w w' := by
  have hlen := ho.len
  simp only [strCs, List.length_map, Nat.mul_one] at hlen
  rcases ho.cases with ⟨rfl, rfl, rfl, h0⟩ | ⟨g, cur, rfl, hb, hnc, hm, hs, ht⟩
  · have hl : l = [] := by simpa [strCs] using h0
    subst hl
    refine (Any.sort_Strings_none lays192 none 0 w).mono ?_
    rintro e w' ⟨rfl, rfl⟩
    exact ⟨rfl, by simpa [strCs, monSort] using ho, Upd.refl⟩
  · have hH : Holds encStr w g 0 l.toArray := fun j hj => by
      have hj' : j < l.length := by simpa using hj
      rw [Nat.zero_add]
      refine ⟨?_, hb.frozen j⟩
      have := ho.cell_ (i := j) (by simpa [strCs] using hj')
      rw [this]
      simp [strCs, getElem!_pos, hj']
    have C := Any.sort_Strings lays192 g 0 c l w hH hb.lt (by omega)
    rw [hlen] at C
    refine C.mono ?_
    rintro e w' ⟨rfl, k, os, rfl⟩
    have hml : (monSort l).length = n := by rw [← hlen]; exact List.length_mergeSort l
    refine ⟨rfl, ?_, (((upd_ahead w k).trans ((upd_putRow _ g 0 _).mono (T := At (some ⟨g, 0, none⟩)) (fun i _ e => by rw [At.some_]; exact e)) (fun _ _ q => q)).trans (upd_grow _ os) (fun _ _ q => q))⟩
    have hb2 : Blk (Go.Sort.ahead w k) g 9 cur := hb
    have hb3 : Blk (putRow encStr (Go.Sort.ahead w k) g 0 (monSort l).toArray) g 9 (putCells encStr 0 (monSort l).toArray cur) := by
      unfold Blk at hb2 ⊢
      simp only [putRow, mapBlock, Array.getElem?_modify, if_true, hb2, Option.map_some, onCells]
    refine Own.mk_ (hb3.upd (upd_grow _ os (S := Non)) (fun f => f)) hnc hm (by simpa [putCells] using hs) ?_
    refine List.ext_getElem ?_ fun i h1 h2 => ?_
    · simp [putCells, strCs, hml]
      omega
    · simp only [strCs, List.length_map] at h2
      simp [putCells, strCs, h2]
end Go.Proofs.Ytnefhokojbkppaa

namespace Go.Proofs.Ytnefhokojbkppaa
open Go.RowKit

structure NF (n : Nat) (l : PL) : Prop where
  srt : l.Pairwise fun a b => a.1 < b.1
  ok : ∀ t ∈ l, t.1.length = n ∧ 0 < t.2 ∧ t.2 < 18446744073709551616
theorem coef_cons (t : Mon × Int) (l : PL) (x : Mon) : coef (t :: l) x = (if t.1 = x then t.2 else 0) + coef l x := rfl
theorem coef_gt {l : PL} {x : Mon} (h : ∀ t ∈ l, x < t.1) : coef l x = 0 := lsum_zero _ _ fun t ht => if_neg fun q => by
  have := h t ht
  rw [q] at this
  exact List.lt_irrefl _ this
theorem NF.uniq {n : Nat} : ∀ {a b : PL}, NF n a → NF n b → Eqv a b → a = b
  | [], [], _, _, _ => rfl
  | [], t :: b, _, hb, h => by
    have h1 := h t.1
    have h2 := List.pairwise_cons.1 hb.srt
    rw [coef_nil, coef_cons, if_pos rfl, coef_gt h2.1] at h1
    have := hb.ok t (by simp)
    omega
  | t :: a, [], ha, _, h => by
    have h1 := h t.1
    have h2 := List.pairwise_cons.1 ha.srt
    rw [coef_nil, coef_cons, if_pos rfl, coef_gt h2.1] at h1
    have := ha.ok t (by simp)
    omega
  | s :: a, t :: b, ha, hb, h => by
    have p1 := List.pairwise_cons.1 ha.srt
    have p2 := List.pairwise_cons.1 hb.srt
    have o1 := ha.ok s (by simp)
    have o2 := hb.ok t (by simp)
    have hk : s.1 = t.1 := by
      by_cases q1 : s.1 < t.1
      · exfalso
        have h1 := h s.1
        rw [coef_cons, if_pos rfl, coef_gt p1.1, coef_gt (l := t :: b) (fun x hx => by
          rcases List.mem_cons.1 hx with rfl | hx
          · exact q1
          · exact List.lt_trans q1 (p2.1 x hx))] at h1
        omega
      · by_cases q2 : t.1 < s.1
        · exfalso
          have h1 := h t.1
          rw [coef_cons (t := t), if_pos rfl, coef_gt p2.1, coef_gt (l := s :: a) (fun x hx => by
            rcases List.mem_cons.1 hx with rfl | hx
            · exact q2
            · exact List.lt_trans q2 (p1.1 x hx))] at h1
          omega
        · exact List.le_antisymm q2 q1
    have hc : s.2 = t.2 := by
      have h1 := h s.1
      rw [coef_cons, if_pos rfl, coef_gt p1.1, coef_cons, if_pos hk.symm, hk, coef_gt p2.1] at h1
      omega
    have hst : s = t := Prod.ext hk hc
    subst hst
    rw [NF.uniq (a := a) (b := b) ⟨p1.2, fun x hx => ha.ok x (by simp [hx])⟩ ⟨p2.2, fun x hx => hb.ok x (by simp [hx])⟩ (fun x => by
      have := h x
      rw [coef_cons, coef_cons] at this
      omega)]
theorem monSort_perm (l : List Mon) : (monSort l).Perm l := List.mergeSort_perm l _
theorem monSort_sorted (l : List Mon) : (monSort l).Pairwise fun a b => a ≤ b := by
  have h := List.pairwise_mergeSort (le := fun x y : Mon => decide (x ≤ y)) (fun a b c h1 h2 => by simp only [decide_eq_true_eq] at *; exact List.le_trans h1 h2) (fun a b => by simp only [Bool.or_eq_true, decide_eq_true_eq]; exact List.le_total a b) l
  exact h.imp fun h => by simpa using h
theorem monSort_lt {l : List Mon} (h : l.Nodup) : (monSort l).Pairwise fun a b => a < b := by
  have h1 := monSort_sorted l
  have h2 : (monSort l).Nodup := (monSort_perm l).nodup_iff.2 h
  refine (h1.and h2).imp fun {x y} ⟨a, b⟩ => ?_
  rcases Decidable.em (x < y) with q | q
  · exact q
  · exact absurd (List.le_antisymm a q) b
theorem coef_nodup : ∀ {ks : List Mon} {f : Mon → Int} {x : Mon}, ks.Nodup → coef (ks.map fun k => (k, f k)) x = if x ∈ ks then f x else 0
  | [], _, _, _ => rfl
  | k :: ks, f, x, h => by
    have h2 := List.nodup_cons.1 h
    rw [List.map_cons, coef_cons, coef_nodup h2.2]
    by_cases q : k = x
    · subst q
      rw [if_pos rfl, if_neg h2.1, if_pos (by simp)]; simp
    · rw [if_neg q]
      by_cases r : x ∈ ks
      · rw [if_pos r, if_pos (by simp [r])]; simp
      · rw [if_neg r, if_neg (by simp [r, Ne.symm q])]; simp
/-- The keys with a coefficient, sorted, are the normal form. -/
theorem NF.of_keys {n : Nat} {l : PL} {ks : List Mon} {f : Mon → Int} (hk : ks.Nodup) (h1 : ∀ k ∈ ks, k.length = n) (hf : ∀ k, f k = coef l k % 18446744073709551616) (h2 : ∀ k, k ∈ ks ↔ f k ≠ 0) :
    NF n ((monSort ks).map fun k => (k, f k)) ∧ Eqv ((monSort ks).map fun k => (k, f k)) l := by
  refine ⟨⟨List.pairwise_map.2 (monSort_lt hk), fun t ht => ?_⟩, fun x => ?_⟩
  · obtain ⟨k, hk2, rfl⟩ := List.mem_map.1 ht
    have hm : k ∈ ks := (monSort_perm ks).mem_iff.1 hk2
    have := (h2 k).1 hm
    have := hf k
    exact ⟨h1 k hm, by simp only []; omega, by simp only []; omega⟩
  · rw [coef_nodup ((monSort_perm ks).nodup_iff.2 hk)]
    have := h2 x
    have hm := (monSort_perm ks).mem_iff (a := x)
    have := hf x
    by_cases q : x ∈ monSort ks
    · rw [if_pos q]; omega
    · rw [if_neg q]
      have : f x = 0 := Decidable.byContradiction fun r => q (hm.2 ((h2 x).2 r))
      omega
theorem coef_ne_mem {l : PL} {x : Mon} (h : coef l x ≠ 0) : ∃ t ∈ l, t.1 = x := by
  refine Decidable.byContradiction fun q => h (lsum_zero _ _ fun t ht => if_neg fun e => q ⟨t, ht, e⟩)
/-- Every monomial of a normal form is one of the terms. -/
theorem NF.mem {n : Nat} {r l : PL} (h : NF n r) (e : Eqv r l) : ∀ t ∈ r, ∃ s ∈ l, s.1 = t.1 := by
  intro t ht
  have hnd : (r.map (·.1)).Nodup := List.pairwise_map.2 (h.srt.imp fun q e => by rw [e] at q; exact List.lt_irrefl _ q)
  have hc : coef r t.1 = t.2 := by
    clear e h
    induction r with
    | nil => simp at ht
    | cons s r ih =>
      have h2 := List.nodup_cons.1 hnd
      rw [coef_cons]
      rcases List.mem_cons.1 ht with rfl | ht
      · rw [if_pos rfl]
        have : coef r t.1 = 0 := lsum_zero _ _ fun u hu => if_neg fun q => h2.1 (List.mem_map.2 ⟨u, hu, q⟩)
        omega
      · rw [if_neg (fun q => h2.1 (List.mem_map.2 ⟨t, ht, q.symm⟩)), ih ht h2.2]; simp
  have h1 := e t.1
  have h2 := h.ok t ht
  rw [hc] at h1
  exact coef_ne_mem (fun q => by rw [q] at h1; omega)
end Go.Proofs.Ytnefhokojbkppaa
