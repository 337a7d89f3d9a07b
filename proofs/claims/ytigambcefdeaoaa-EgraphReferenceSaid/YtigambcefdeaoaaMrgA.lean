/-
  What egraph.mergeSorted does: it merges two lists.
  Merging two classes, in plain Lean: the lists of members and the smallest nodes. No program in sight.
  One rule for what stands behind a taken operation of a drawn region. No condition of its own.
  The graph in memory behind a merge: put together. No condition of its own.
  What (*egraph.Graph).merge does: it joins two classes and records the step.
-/
import Derived.Test.YtigambcefdeaoaaGRead
import Derived.Deep.RegionHeld3
import Derived.WalkKit
import Derived.Deep.RegionWith
import Derived.Deep.CutBlock
namespace Go.Proofs.Ytigambcefdeaoaa
open Go.RowKit

def mergeL : List Int → List Int → List Int
  | [], b => b
  | x :: a, [] => x :: a
  | x :: a, y :: b => if x < y then x :: mergeL a (y :: b) else y :: mergeL (x :: a) b
theorem mergeL_nil (a : List Int) : mergeL a [] = a := by cases a <;> simp [mergeL]
theorem mergeL_len : ∀ (a b : List Int), (mergeL a b).length = a.length + b.length
  | [], b => by simp [mergeL]
  | x :: a, [] => by simp [mergeL]
  | x :: a, y :: b => by
    unfold mergeL
    split
    · have := mergeL_len a (y :: b); simp at this ⊢; omega
    · have := mergeL_len (x :: a) b; simp at this ⊢; omega
termination_by a b => a.length + b.length

/-- make([]T, 0, n), T of one cell. -/
theorem run_mk0 {P : Program} {t e : TypeId} {bytes : Nat} (T : SlT P t e 1 bytes) {z : Value} (hz : (P.info? e).bind (·.zero) = some z) (hzc : z.cells = #[z]) (n : Nat) (hb : bytes * n ≤ 281474976710656) (hn : n ≤ 9223372036854775807) (w : World) :
    (Instr.makeSlice t (.int .i64 0) (.int .i64 (n : Int))).run P w = .ok (.slice (some ⟨w.heap.size, 0, none⟩) 0 n) (w.alloc (.cells (Array.replicate n z) e)) := by
  obtain ⟨ht, ⟨i, z', hi, hz', hsz, hby, hzs⟩, _⟩ := T
  have : z' = z := by rw [hi] at hz; simp [hz'] at hz; exact hz
  subst this
  have hb' : (i.bytes : Int) * (n : Int) ≤ 281474976710656 := by
    have h : ((i.bytes * n : Nat) : Int) ≤ 281474976710656 := by rw [hby]; omega
    rwa [Int.natCast_mul] at h
  have hr := run_make (P := P) w t e i z' ht hi hz' .i64 .i64 0 n (by omega) (by omega) hb' (by omega)
  simp only [Int.toNat_natCast, Int.toNat_zero, hsz, Nat.mul_one, hzc] at hr
  rw [hr]
  congr 2
  congr 1
  apply Array.ext
  · simp [size_madeCells]
  · intro j h1 h2
    simp [madeCells, Nat.mod_one]

theorem Ints.tail_ {w : World} {F : Nat → Prop} {b o : Nat} {x : Int} {xs : List Int} (h : Ints w F (some ⟨b, o, none⟩) (x :: xs)) : Ints w F (some ⟨b, o + 1, none⟩) xs := by
  rcases h with h | ⟨b', o', e, hF, hc⟩
  · simp at h
  · injection e with e; injection e with e1 e2; subst e1; subst e2
    refine .inr ⟨b, o + 1, rfl, hF, fun j hj => ?_⟩
    have := hc (j + 1) (by simpa using hj)
    rw [show o + (j + 1) = o + 1 + j by omega] at this
    simpa using this

set_option maxRecDepth 100000 in
set_option maxHeartbeats 2000000 in
theorem mergeSorted_c (w : World) (F : Nat → Prop) (A B : Option Addr) (ca cb : Nat) (xs ys : List Int) (hx : Ints w F A xs) (hy : Ints w F B ys) (hca : xs.length ≤ ca) (hcb : ys.length ≤ cb) (hl : xs.length ≤ 1000000) (hl2 : ys.length ≤ 1000000) :
    Calls Try.prog 67 #[.slice A xs.length ca, .slice B ys.length cb] w fun e w' => ∃ R c, e = .returned (.slice R (mergeL xs ys).length c) ∧ Own w' 3 1 R (mergeL xs ys).length c (icells (mergeL xs ys)) ∧ (∀ k, At R k → w.heap.size ≤ k) ∧ Upd Non w w' := by
  have hx0 := hx.mono (G := (· < w.heap.size)) (fun k hk _ => hk)
  have hy0 := hy.mono (G := (· < w.heap.size)) (fun k hk _ => hk)
  clear hx hy
  have hmk := run_mk0 (P := Try.prog) T_ints' zero_int' rfl (xs.length + ys.length) (by omega) (by omega)
  simp only [Int.natCast_add] at hmk
  obtain ⟨M, HM⟩ := nm (mergeL xs ys)
  rw [HM.out]
  go_enter Try.func67, Try.ntmps67
  go_wp2_with fail
  go_loopg [0, 1, 5] (xs.length + ys.length) (fun g va vb vl wr => ∃ (A' B' R : Option Addr) (ca' cb' c : Nat) (xs' ys' acc : List Int), Hid (g = xs'.length + ys'.length) ∧ Hid (acc ++ mergeL xs' ys' = M) ∧ acc.length + xs'.length + ys'.length ≤ 2000000 ∧ va = .slice A' xs'.length ca' ∧ vb = .slice B' ys'.length cb' ∧ vl = .slice R acc.length c ∧
    Ints wr (· < w.heap.size) A' xs' ∧ Ints wr (· < w.heap.size) B' ys' ∧ xs'.length ≤ ca' ∧ ys'.length ≤ cb' ∧ Own wr 3 1 R acc.length c (icells acc) ∧ Hid (∀ k, At R k → w.heap.size ≤ k) ∧ Upd Non w wr)
  case atStart =>
    refine ⟨A, B, some ⟨w.heap.size, 0, none⟩, ca, cb, xs.length + ys.length, xs, ys, [], rfl, HM, by simp; omega, rfl, rfl, rfl, hx0.upd (Upd.refl.alloc _ (S := Non)) (fun _ _ _ f => f), hy0.upd (Upd.refl.alloc _ (S := Non)) (fun _ _ _ f => f), hca, hcb, ?_, ?_, Upd.refl.alloc _⟩
    · exact Own.mk_ (Blk.new _ _ _) (Nat.zero_le _) (by simp only [maxLen]; omega) (by simp) (by simp [icells])
    · intro k hk; rw [At.some_] at hk; omega
  case round =>
    clear hmk hx0 hy0 hca hcb
    obtain ⟨A', B', R, ca', cb', c, xs', ys', acc, Hg, Hm, hsm, rfl, rfl, rfl, hx, hy, hca, hcb, ho, HR, hu⟩ := hrel
    by_cases hz : xs'.length = 0 ∨ ys'.length = 0
    · have Hm2 : Hid (acc ++ xs' ++ ys' = M) := by
        show _ = _
        rw [← Hm.out]
        rcases hz with h | h
        · obtain rfl := List.eq_nil_of_length_eq_zero h; simp [mergeL]
        · obtain rfl := List.eq_nil_of_length_eq_zero h; simp [mergeL_nil]
      have fin : ∀ A2 c2 w2, Own w2 3 1 A2 (acc.length + xs'.length) c2 (icells acc ++ icells xs') → Upd (At R) wr w2 → (∀ k, At A2 k → At R k ∨ k = wr.heap.size) → Ints w2 (· < w.heap.size) B' ys' ∧ Upd Non w w2 ∧ Hid (∀ k, At A2 k → w.heap.size ≤ k) := fun A2 c2 w2 ho2 hu2 hat2 =>
        ⟨hy.upd hu2 (fun k _ hk h => by have := HR.out k h; omega), hu.trans hu2 (fun i hi h => by have := HR.out i h; omega), fun k hk => by
          rcases hat2 k hk with h | h
          · exact HR.out k h
          · have := hu.size; omega⟩
      have hz' : ¬ 0 < xs'.length ∨ ¬ 0 < ys'.length := by omega
      clear hz
      by_cases h0 : 0 < xs'.length
      all_goals
        go_wp2_with (first | (at_builtin; refine wpList_app rfl rfl T_ints' rfl ho rfl hx (by simp) (icells_one xs') (by simp only [maxLen]; omega) (by omega) ?_; intro A2 c2 w2 ho2 hu2 hat2; obtain ⟨hy2, hw2, HR2⟩ := fin A2 c2 w2 ho2 hu2 hat2) | (at_builtin; refine wpList_app rfl rfl T_ints' rfl ho2 rfl hy2 (by simp) (icells_one ys') (by simp only [maxLen]; omega) (by omega) ?_; intro A3 c3 w3 ho3 hu3 hat3))
        go_ret
        have hlen : acc.length + xs'.length + ys'.length = M.length := by rw [← Hm2.out]; simp; omega
        have hic : icells acc ++ icells xs' ++ icells ys' = icells M := by rw [← Hm2.out]; simp [icells]
        refine ⟨A3, c3, by rw [← hlen]; rfl, by rw [← hlen, ← hic]; exact ho3, fun k hk => ?_, hw2.trans hu3 (fun i hi h => by have := HR2.out i h; omega)⟩
        rcases hat3 k hk with h | h
        · exact HR2.out k h
        · have := hw2.size; omega
    match xs', ys', hz with
    | [], ys', hz => exact absurd (.inl rfl) hz
    | x :: xs', [], hz => exact absurd (.inr rfl) hz
    | x :: xs', y :: ys', hz =>
      clear hz
      obtain ⟨ab, ao, rfl, hab, hab2, cx⟩ := hx.at_ (k := 0) (by simp)
      obtain ⟨bb, bo, rfl, hbb, hbb2, cy⟩ := hy.at_ (k := 0) (by simp)
      rw [Nat.add_zero] at cx cy
      replace cx : wr.cell? ⟨ab, ao, none⟩ = some (.int .i64 x) := cx
      replace cy : wr.cell? ⟨bb, bo, none⟩ = some (.int .i64 y) := cy
      have hxt := hx.tail_
      have hyt := hy.tail_
      have l1 : (x :: xs').length = xs'.length + 1 := rfl
      have l2 : (y :: ys').length = ys'.length + 1 := rfl
      rw [l1] at hca hsm Hg ⊢
      rw [l2] at hcb hsm Hg ⊢
      by_cases hlt : x < y
      · have HM2 : Hid ((acc ++ [x]) ++ mergeL xs' (y :: ys') = M) := by
          show _ = _
          rw [← Hm.out]
          simp [mergeL, hlt]
        have HNB : Hid (¬ At R ab) := fun h => by have := HR.out _ h; omega
        go_wp2_with fail
        go_quiet (fail)
        go_wp2_with fail
        have cx1 : (wr.drewN nq).cell? ⟨ab, ao, none⟩ = some (.int .i64 x) := cx
        have ho1 : Own (wr.drewN nq) 3 1 R acc.length c (icells acc) := ho
        have hx1 : Ints (wr.drewN nq) (· < w.heap.size) (some ⟨ab, ao, none⟩) (x :: xs') := hx
        have hy1 : Ints (wr.drewN nq) (· < w.heap.size) (some ⟨bb, bo, none⟩) (y :: ys') := hy
        have ht1 : Ints (wr.drewN nq) (· < w.heap.size) (some ⟨ab, ao + 1, none⟩) xs' := hxt
        have hu1 : Upd Non w (wr.drewN nq) := hu.drewN nq
        generalize wr.drewN nq = W1 at *
        clear cx cy hx hy hxt hyt
        have i1 : (1 : Int) ≤ (xs'.length : Int) + 1 := by omega
        have i2 : (xs'.length : Int) + 1 ≤ (ca' : Int) := by omega
        have i3 : (1 : Int) ≤ (ca' : Int) := by omega
        have i4 : 1 ≤ xs'.length + 1 := by omega
        have i5 : 1 ≤ ca' := by omega
        by_cases hc1 : ca' = 1
        all_goals
          go_region_held3 (fun w' => w'.cell? ⟨ab, ao, none⟩ = some (.int .i64 x))
            (first | exact cell_upd cx1 (Upd.refl (S := Non)).drew (fun f => f) | exact cell_upd cx1 ((Upd.refl (S := Non)).drew.alloc _) (fun f => f) | exact k0 | go_keep)
            (first
              | (refine step_app rfl rfl T_ints' rfl ((show Own W1.drew _ _ _ _ _ _ from ho1).alloc _) rfl (Sl.new _ _ _) rfl (by simp [Value.oneCell']) (by simp only [maxLen]; omega) (by omega) ?_; intro A4 c4 w5 ho4 hu5 hat4; have k0 := cell_upd (cell_upd cx1 ((Upd.refl (S := Non)).drew.alloc _) (fun f => f)) hu5 (HNB.out)))
          go_wp2_with fail
          have hX := (hx1.upd ((Upd.refl (S := Non)).drew.alloc (.cells #[.int .i64 x] 3)) (fun _ _ _ f => f)).upd hu5 (fun k _ hk h => by have := HR.out k h; omega)
          have hY := (hy1.upd ((Upd.refl (S := Non)).drew.alloc (.cells #[.int .i64 x] 3)) (fun _ _ _ f => f)).upd hu5 (fun k _ hk h => by have := HR.out k h; omega)
          have hT := (ht1.upd ((Upd.refl (S := Non)).drew.alloc (.cells #[.int .i64 x] 3)) (fun _ _ _ f => f)).upd hu5 (fun k _ hk h => by have := HR.out k h; omega)
          have hU := (hu1.drew.alloc (.cells #[.int .i64 x] 3)).trans hu5 (fun i hi h => by have := HR.out i h; omega)
          have HR2 : Hid (∀ k, At A4 k → w.heap.size ≤ k) := fun k hk => by
            rcases hat4 k hk with h | h
            · exact HR.out k h
            · have := hu1.size; simp at h; omega
          have ho5 : Own w5 3 1 A4 (acc ++ [x]).length c4 (icells (acc ++ [x])) := by rw [icells_snoc, List.length_append]; exact ho4
          go_roundg (xs'.length + (ys'.length + 1))
          case measure => rw [Hg.out]; omega
          case rel =>
            first
            | exact ⟨_, _, A4, _, cb', c4, xs', y :: ys', acc ++ [x], rfl, HM2, by simp; omega, rfl, rfl, by simp, .inl (by simp; exact List.eq_nil_of_length_eq_zero (by omega)), hY, by omega, hcb, ho5, HR2, hU⟩
            | exact ⟨_, _, A4, _, cb', c4, xs', y :: ys', acc ++ [x], rfl, HM2, by simp; omega, rfl, rfl, by simp, hT, hY, by omega, hcb, ho5, HR2, hU⟩
      · have HM2 : Hid ((acc ++ [y]) ++ mergeL (x :: xs') ys' = M) := by
          show _ = _
          rw [← Hm.out]
          simp [mergeL, hlt]
        have HNB : Hid (¬ At R bb) := fun h => by have := HR.out _ h; omega
        go_wp2_with fail
        go_quiet (fail)
        go_wp2_with fail
        have cx1 : (wr.drewN nq).cell? ⟨bb, bo, none⟩ = some (.int .i64 y) := cy
        have ho1 : Own (wr.drewN nq) 3 1 R acc.length c (icells acc) := ho
        have hx1 : Ints (wr.drewN nq) (· < w.heap.size) (some ⟨ab, ao, none⟩) (x :: xs') := hx
        have hy1 : Ints (wr.drewN nq) (· < w.heap.size) (some ⟨bb, bo, none⟩) (y :: ys') := hy
        have ht1 : Ints (wr.drewN nq) (· < w.heap.size) (some ⟨bb, bo + 1, none⟩) ys' := hyt
        have hu1 : Upd Non w (wr.drewN nq) := hu.drewN nq
        generalize wr.drewN nq = W1 at *
        clear cx cy hx hy hxt hyt
        have i1 : (1 : Int) ≤ (ys'.length : Int) + 1 := by omega
        have i2 : (ys'.length : Int) + 1 ≤ (cb' : Int) := by omega
        have i3 : (1 : Int) ≤ (cb' : Int) := by omega
        have i4 : 1 ≤ ys'.length + 1 := by omega
        have i5 : 1 ≤ cb' := by omega
        by_cases hc1 : cb' = 1
        all_goals
          go_region_held3 (fun w' => w'.cell? ⟨bb, bo, none⟩ = some (.int .i64 y))
            (first | exact cell_upd cx1 (Upd.refl (S := Non)).drew (fun f => f) | exact cell_upd cx1 ((Upd.refl (S := Non)).drew.alloc _) (fun f => f) | exact k0 | go_keep)
            (first
              | (refine step_app rfl rfl T_ints' rfl ((show Own W1.drew _ _ _ _ _ _ from ho1).alloc _) rfl (Sl.new _ _ _) rfl (by simp [Value.oneCell']) (by simp only [maxLen]; omega) (by omega) ?_; intro A4 c4 w5 ho4 hu5 hat4; have k0 := cell_upd (cell_upd cx1 ((Upd.refl (S := Non)).drew.alloc _) (fun f => f)) hu5 (HNB.out)))
          go_wp2_with fail
          have hX := (hx1.upd ((Upd.refl (S := Non)).drew.alloc (.cells #[.int .i64 y] 3)) (fun _ _ _ f => f)).upd hu5 (fun k _ hk h => by have := HR.out k h; omega)
          have hY := (hy1.upd ((Upd.refl (S := Non)).drew.alloc (.cells #[.int .i64 y] 3)) (fun _ _ _ f => f)).upd hu5 (fun k _ hk h => by have := HR.out k h; omega)
          have hT := (ht1.upd ((Upd.refl (S := Non)).drew.alloc (.cells #[.int .i64 y] 3)) (fun _ _ _ f => f)).upd hu5 (fun k _ hk h => by have := HR.out k h; omega)
          have hU := (hu1.drew.alloc (.cells #[.int .i64 y] 3)).trans hu5 (fun i hi h => by have := HR.out i h; omega)
          have HR2 : Hid (∀ k, At A4 k → w.heap.size ≤ k) := fun k hk => by
            rcases hat4 k hk with h | h
            · exact HR.out k h
            · have := hu1.size; simp at h; omega
          have ho5 : Own w5 3 1 A4 (acc ++ [y]).length c4 (icells (acc ++ [y])) := by rw [icells_snoc, List.length_append]; exact ho4
          go_roundg (xs'.length + 1 + ys'.length)
          case measure => rw [Hg.out]; omega
          case rel =>
            first
            | exact ⟨_, _, A4, ca', _, c4, x :: xs', ys', acc ++ [y], rfl, HM2, by simp; omega, rfl, rfl, by simp, hX, .inl (by simp; exact List.eq_nil_of_length_eq_zero (by omega)), hca, by omega, ho5, HR2, hU⟩
            | exact ⟨_, _, A4, ca', _, c4, x :: xs', ys', acc ++ [y], rfl, HM2, by simp; omega, rfl, rfl, by simp, hX, hT, hca, by omega, ho5, HR2, hU⟩
end Go.Proofs.Ytigambcefdeaoaa

namespace Go.Proofs.Ytigambcefdeaoaa

theorem mergeL_filter (p q : Nat → Bool) : ∀ (l : List Nat), l.Pairwise (· < ·) → (∀ x ∈ l, ¬ (p x = true ∧ q x = true)) →
    mergeL ((l.filter p).map fun (k : Nat) => (k : Int)) ((l.filter q).map fun (k : Nat) => (k : Int)) = (l.filter fun x => p x || q x).map fun (k : Nat) => (k : Int)
  | [], _, _ => by simp [mergeL]
  | x :: l, hs, hd => by
    have hs' := List.pairwise_cons.1 hs
    have ih := mergeL_filter p q l hs'.2 (fun y hy => hd y (by simp [hy]))
    have hx := hd x (by simp)
    cases hp : p x with
    | true =>
      have hq : q x = false := by cases h : q x; rfl; exact absurd ⟨hp, h⟩ hx
      simp only [List.filter_cons, hp, hq, if_true, Bool.true_or, Bool.false_eq_true, if_false, List.map_cons]
      rw [← ih]
      cases e : l.filter q with
      | nil => simp [mergeL_nil]
      | cons y t =>
        have hy : x < y := hs'.1 y ((List.mem_filter.1 (show y ∈ l.filter q by rw [e]; simp)).1)
        simp only [List.map_cons, mergeL]
        rw [if_pos (by omega)]
    | false =>
      cases hq : q x with
      | false => simpa [List.filter_cons, hp, hq] using ih
      | true =>
        simp only [List.filter_cons, hp, hq, if_true, Bool.false_or, Bool.false_eq_true, if_false, List.map_cons]
        rw [← ih]
        cases e : l.filter p with
        | nil => simp [mergeL]
        | cons y t =>
          have hy : x < y := hs'.1 y ((List.mem_filter.1 (show y ∈ l.filter p by rw [e]; simp)).1)
          simp only [List.map_cons, mergeL]
          rw [if_neg (by omega)]

theorem range_sorted (n : Nat) : (List.range n).Pairwise (· < ·) := List.pairwise_lt_range

section
variable {n : Nat} {c : Nat → Nat} {i j lo hi : Nat}
theorem memL_lo (hlo : min (c i) (c j) = lo) (hhi : max (c i) (c j) = hi) (hne : lo ≠ hi) : memL n (joinc c i j) lo = mergeL (memL n c lo) (memL n c hi) := by
  unfold memL
  rw [mergeL_filter _ _ _ (range_sorted n) (fun x _ h => by simp at h; omega)]
  congr 1
  apply List.filter_congr
  intro x _
  unfold joinc
  rw [hlo, hhi, Bool.eq_iff_iff]
  simp only [beq_iff_eq, Bool.or_eq_true]
  split <;> omega
theorem memL_hi (hlo : min (c i) (c j) = lo) (hhi : max (c i) (c j) = hi) (hne : lo ≠ hi) : memL n (joinc c i j) hi = [] := by
  unfold memL
  have : (List.range n).filter (fun k => joinc c i j k == hi) = [] := by
    rw [List.filter_eq_nil_iff]
    intro x _
    unfold joinc
    rw [hlo, hhi]
    simp only [beq_iff_eq]
    split <;> omega
  rw [this]; rfl
theorem memL_else (hlo : min (c i) (c j) = lo) (hhi : max (c i) (c j) = hi) {k : Nat} (h1 : k ≠ lo) (h2 : k ≠ hi) : memL n (joinc c i j) k = memL n c k := by
  unfold memL
  congr 1
  apply List.filter_congr
  intro x _
  unfold joinc
  rw [hlo, hhi, Bool.eq_iff_iff]
  simp only [beq_iff_eq]
  split <;> omega

/-- The smallest nodes after t members of the class hi have been turned. -/
def turned (n : Nat) (c : Nat → Nat) (lo hi t : Nat) : List Int := ((memL n c hi).take t).foldl (fun l x => l.set x.toNat (lo : Int)) ((List.range n).map fun k => (c k : Int))
theorem turned_zero : turned n c lo hi 0 = (List.range n).map fun k => (c k : Int) := rfl
theorem turned_len (t : Nat) : (turned n c lo hi t).length = n := by
  unfold turned
  have : ∀ (xs : List Int) (l : List Int), (xs.foldl (fun l x => l.set x.toNat (lo : Int)) l).length = l.length := by
    intro xs; induction xs with
    | nil => intro l; rfl
    | cons x xs ih => intro l; rw [List.foldl_cons, ih]; simp
  rw [this]; simp
theorem turned_succ {t : Nat} (h : t < (memL n c hi).length) : turned n c lo hi (t + 1) = (turned n c lo hi t).set ((memL n c hi)[t]).toNat (lo : Int) := by
  unfold turned
  rw [List.take_succ_eq_append_getElem h, List.foldl_append]
  rfl
theorem foldl_set_get (lo : Int) : ∀ (xs : List Int) (l : List Int) (k : Nat) (hk : k < (xs.foldl (fun l x => l.set x.toNat lo) l).length) (hk' : k < l.length), (∀ x ∈ xs, 0 ≤ x) →
    (xs.foldl (fun l x => l.set x.toNat lo) l)[k] = if (k : Int) ∈ xs then lo else l[k]
  | [], l, k, _, _, _ => by simp
  | x :: xs, l, k, hk, hk', h0 => by
    have ih := foldl_set_get lo xs (l.set x.toNat lo) k hk (by simpa using hk') (fun y hy => h0 y (by simp [hy]))
    refine Eq.trans ih ?_
    rw [List.getElem_set]
    have hx := h0 x (by simp)
    by_cases e : (k : Int) ∈ xs
    · simp [e]
    · by_cases e2 : x.toNat = k
      · have : (k : Int) = x := by omega
        rw [if_neg e, if_pos e2, if_pos (by simp [this])]
      · have : ¬ (k : Int) = x := by omega
        simp [e, e2, this]
theorem mem_memL {k : Int} : k ∈ memL n c hi ↔ ∃ q : Nat, q < n ∧ c q = hi ∧ (q : Int) = k := by
  unfold memL
  simp [List.mem_map, List.mem_filter, and_assoc]
theorem memL_get {t : Nat} (h : t < (memL n c hi).length) : ∃ q : Nat, (memL n c hi)[t] = (q : Int) ∧ q < n ∧ c q = hi := by
  obtain ⟨q, h1, h2, h3⟩ := mem_memL.1 (List.getElem_mem h)
  exact ⟨q, h3.symm, h1, h2⟩
theorem memL_length_le : (memL n c hi).length ≤ n := by
  unfold memL
  rw [List.length_map]
  exact Nat.le_trans (List.length_filter_le _ _) (by simp)
theorem turned_all (hlo : min (c i) (c j) = lo) (hhi : max (c i) (c j) = hi) : turned n c lo hi (memL n c hi).length = (List.range n).map fun k => (joinc c i j k : Int) := by
  apply List.ext_getElem
  · rw [turned_len]; simp
  · intro k hk hk'
    unfold turned at hk ⊢
    have hkn : k < n := by simpa using hk'
    have h0 : ∀ x ∈ List.take (memL n c hi).length (memL n c hi), 0 ≤ x := fun x hx => by
      obtain ⟨q, _, _, h⟩ := mem_memL.1 (List.mem_of_mem_take hx)
      omega
    rw [foldl_set_get _ _ _ k hk (by simpa using hkn) h0, List.take_length]
    simp only [List.getElem_map, List.getElem_range]
    unfold joinc
    rw [hlo, hhi]
    by_cases e : c k = hi
    · rw [if_pos (mem_memL.2 ⟨k, hkn, e, rfl⟩), if_pos e]
    · rw [if_neg, if_neg e]
      intro h
      obtain ⟨q, _, h2, h3⟩ := mem_memL.1 h
      have : q = k := by omega
      subst this
      exact e h2
end
end Go.Proofs.Ytigambcefdeaoaa

namespace Go.Proofs.Ytigambcefdeaoaa

theorem put_z : (∀ (a : Act) (d : Tmp) (v : Value), a.put (some d) v = { a with tmps := a.tmps.setIfInBounds d v }) ∧ (∀ (a : Act) (v : Value), a.put none v = a) ∧
    (∀ (l : List Value) (i : Nat) (v : Value), l.toArray.setIfInBounds i v = (l.set i v).toArray) ∧ (∀ (x v : Value) (l : List Value), (x :: l).set 0 v = v :: l) ∧ (∀ (x v : Value) (l : List Value) (n : Nat), (x :: l).set (n + 1) v = x :: l.set n v) :=
  ⟨fun _ _ _ => rfl, fun _ _ => rfl, fun _ _ _ => by simp, fun _ _ _ => rfl, fun _ _ _ _ => rfl⟩
end Go.Proofs.Ytigambcefdeaoaa

namespace Go.Proofs.Ytigambcefdeaoaa
open Go.RowKit

/-- Only blocks of the graph have turned. -/
def Mine (ρ : Nat → Role) : Nat → Prop := fun k => ρ k ≠ .no
/-- Roles for new blocks, by ranges. -/
def paint3 (ρ : Nat → Role) (n0 n1 n2 n3 : Nat) (r1 r2 r3 : Role) : Nat → Role := fun k => if k < n0 then ρ k else if k < n1 then r1 else if k < n2 then r2 else if k < n3 then r3 else .no
theorem paint3_old {ρ : Nat → Role} {n0 n1 n2 n3 : Nat} {r1 r2 r3 : Role} {k : Nat} (h : k < n0) : paint3 ρ n0 n1 n2 n3 r1 r2 r3 k = ρ k := by unfold paint3; rw [if_pos h]
theorem paint3_one {ρ : Nat → Role} {n0 n1 n2 n3 : Nat} {r1 r2 r3 : Role} {k : Nat} (h : n0 ≤ k) (h1 : k < n1) : paint3 ρ n0 n1 n2 n3 r1 r2 r3 k = r1 := by unfold paint3; rw [if_neg (by omega), if_pos h1]
theorem paint3_two {ρ : Nat → Role} {n0 n1 n2 n3 : Nat} {r1 r2 r3 : Role} {k : Nat} (h : n0 ≤ k) (h1 : n1 ≤ k) (h2 : k < n2) : paint3 ρ n0 n1 n2 n3 r1 r2 r3 k = r2 := by unfold paint3; rw [if_neg (by omega), if_neg (by omega), if_pos h2]
theorem paint3_three {ρ : Nat → Role} {n0 n1 n2 n3 : Nat} {r1 r2 r3 : Role} {k : Nat} (h : n0 ≤ k) (h1 : n1 ≤ k) (h2 : n2 ≤ k) (h3 : k < n3) : paint3 ρ n0 n1 n2 n3 r1 r2 r3 k = r3 := by unfold paint3; rw [if_neg (by omega), if_neg (by omega), if_neg (by omega), if_pos h3]
theorem paint3_lt {ρ : Nat → Role} {n0 n1 n2 n3 : Nat} {r1 r2 r3 : Role} {k : Nat} (hn : n0 ≤ n1 ∧ n1 ≤ n2 ∧ n2 ≤ n3) (hb : ∀ k, ρ k ≠ .no → k < n3) (h : paint3 ρ n0 n1 n2 n3 r1 r2 r3 k ≠ .no) : k < n3 := by
  unfold paint3 at h
  split at h
  · exact hb k h
  · split at h
    · omega
    · split at h
      · omega
      · split at h
        · omega
        · exact absurd rfl h

theorem scells_set {n : Nat} {c : Nat → Nat} {i j lo hi : Nat} {mS : List (Option Addr × Nat)} {R : Option Addr} {rc : Nat} (hl : mS.length = n) (hlo : min (c i) (c j) = lo) (hhi : max (c i) (c j) = hi) (hne : lo ≠ hi) :
    ((scells n c mS).set lo (.slice R (memL n (joinc c i j) lo).length rc)).set hi (.slice none 0 0) = scells n (joinc c i j) ((mS.set lo (R, rc)).set hi (none, 0)) := by
  apply List.ext_getElem
  · simp [scells]
  · intro k hk hk'
    have hkn : k < n := by simpa [scells] using hk'
    simp only [scells, List.getElem_set, List.getElem_map, List.getElem_range]
    by_cases e1 : hi = k
    · subst e1
      rw [if_pos rfl, memL_hi hlo hhi hne]
      simp [hl, hkn]
    · rw [if_neg e1]
      by_cases e2 : lo = k
      · subst e2
        rw [if_pos rfl]
        simp [hl, hkn, e1]
      · rw [if_neg e2, memL_else hlo hhi (fun h => e2 h.symm) (fun h => e1 h.symm)]
        simp [e1, e2]

theorem merge_fin {w W wr w5 w6 w7 w8 : World} {ρ : Nat → Role} {gb : Nat} {a : GA} {G : EG} {i j : Nat} {y : Int} {vs ms : List Int} {fb mb lo hi n : Nat} {mS : List (Option Addr × Nat)} {tcs : List Value} {R VB MB A8 : Option Addr} {rc vd md c8 : Nat}
    (hU : Upd Non w W) (hM : GM W ρ gb a G) (hbw : ∀ k, ρ k ≠ .no → k < w.heap.size) (hn : G.L.length = n) (ef : a.f = some ⟨fb, 0, none⟩) (em : a.m = some ⟨mb, 0, none⟩) (hmSl : mS.length = n)
    (hmv : ∀ i, i < n → Ints W (fun k => ρ k = .ins) (mS.getD i (none, 0)).1 (memL n G.c i) ∧ (memL n G.c i).length ≤ (mS.getD i (none, 0)).2)
    (hlo : min (G.c i) (G.c j) = lo) (hhi : max (G.c i) (G.c j) = hi) (hne : lo ≠ hi) (hfr : ρ fb = .find) (hmr : ρ mb = .mem)
    (ho : Own wr 3 1 (some ⟨fb, 0, none⟩) n a.fc (icells ((List.range n).map fun k => (joinc G.c i j k : Int)))) (hu : Upd (· = fb) W wr) (hu5 : Upd Non wr w5)
    (hoR : Own w5 3 1 R (memL n (joinc G.c i j) lo).length rc (icells (memL n (joinc G.c i j) lo))) (hRn : ∀ k, At R k → W.heap.size ≤ k)
    (hm7 : Own w6 22 1 (some ⟨mb, 0, none⟩) n a.mc (((scells n G.c mS).set lo (.slice R (memL n (joinc G.c i j) lo).length rc)).set hi (.slice none 0 0))) (hU56 : Upd (· = mb) w5 w6)
    (hu7 : Upd Non w6 w7) (hv : Ints w7 (w6.heap.size ≤ ·) VB vs) (hm : Ints w7 (w6.heap.size ≤ ·) MB ms) (hvd : vs.length ≤ vd) (hmd : ms.length ≤ md)
    (hto : Own W 34 5 a.t G.T.length a.tc tcs) (htc : StepCells W (fun k => ρ k = .vars) tcs G.T) (htr : ∀ k, At a.t k → ρ k = .steps)
    (ho8 : Own w8 34 5 A8 (G.T.length + 1) c8 (tcs ++ [.int .i64 (i : Int), .int .i64 (j : Int), .int .i64 y, .slice VB vs.length vd, .slice MB ms.length md])) {o : Obj} (hu8 : Upd (At a.t) (w7.alloc o) w8) (hat8 : ∀ k, At A8 k → At a.t k ∨ k = (w7.alloc o).heap.size) :
    ∃ ρ' a', GM (w8.setCell ⟨gb, 6, none⟩ (.slice A8 (G.T.length + 1) c8)) ρ' gb a' (G.merge ⟨i, j, y, vs, ms⟩) ∧ Upd (Mine ρ) w (w8.setCell ⟨gb, 6, none⟩ (.slice A8 (G.T.length + 1) c8)) ∧ ∀ k, k < w.heap.size → ρ' k = ρ k := by
  have hgr := hM.me
  have hgw := hbw gb (by rw [hgr]; simp)
  have hfw := hbw fb (by rw [hfr]; simp)
  have hmw := hbw mb (by rw [hmr]; simp)
  have s1 := hU.size
  have s2 := hu.size
  have s3 := hu5.size
  have s4 := hU56.size
  have s5 := hu7.size
  have s6 := hu8.size
  have s6' : w7.heap.size < w8.heap.size := by simp at s6; omega
  obtain ⟨wF, HF⟩ := nm (w8.setCell ⟨gb, 6, none⟩ (.slice A8 (G.T.length + 1) c8))
  have u8F : Upd (· = gb) w8 wF := by rw [← HF.out]; exact updCell _ _ _ _
  have s7 : w8.heap.size ≤ wF.heap.size := u8F.size
  have s8 : wF.heap.size = w8.heap.size := by rw [← HF.out]; simp [World.setCell]
  have u6F : Upd (fun k => At a.t k ∨ k = gb) w6 wF := ((((hu7.alloc o).mono (T := At a.t) (fun _ _ f => f.elim)).trans hu8 (fun _ _ h => h)).mono (T := fun k => At a.t k ∨ k = gb) (fun _ _ h => .inl h)).trans u8F (fun _ _ h => .inr h)
  have u5F : Upd (fun k => k = mb ∨ At a.t k ∨ k = gb) w5 wF := (hU56.mono (T := fun k => k = mb ∨ At a.t k ∨ k = gb) (fun _ _ h => .inl h)).trans u6F (fun _ _ h => .inr h)
  have urF : Upd (fun k => k = mb ∨ At a.t k ∨ k = gb) wr wF := (hu5.mono (T := fun k => k = mb ∨ At a.t k ∨ k = gb) (fun _ _ f => f.elim)).trans u5F (fun _ _ h => h)
  have uWF : Upd (fun k => k = fb ∨ k = mb ∨ At a.t k ∨ k = gb) W wF := (hu.mono (T := fun k => k = fb ∨ k = mb ∨ At a.t k ∨ k = gb) (fun _ _ h => .inl h)).trans urF (fun _ _ h => .inr h)
  have hd : ∀ k, (k = fb ∨ k = mb ∨ At a.t k ∨ k = gb) → ρ k = .find ∨ ρ k = .mem ∨ ρ k = .steps ∨ ρ k = .me := by
    rintro k (rfl | rfl | h | rfl)
    · exact .inl hfr
    · exact .inr (.inl hmr)
    · exact .inr (.inr (.inl (htr k h)))
    · exact .inr (.inr (.inr hgr))
  have eW : ∀ k, k < W.heap.size → paint3 ρ W.heap.size w6.heap.size w7.heap.size wF.heap.size .ins .vars .steps k = ρ k := fun k hk => paint3_old hk
  have hgt : ¬ At a.t gb := fun h => by have := htr gb h; rw [hgr] at this; cases this
  have hgm : gb ≠ mb := fun e => by rw [e, hmr] at hgr; cases hgr
  have hgf : gb ≠ fb := fun e => by rw [e, hfr] at hgr; cases hgr
  have hfm : fb ≠ mb := fun e => by rw [e, hmr] at hfr; cases hfr
  rw [HF.out]
  refine ⟨paint3 ρ W.heap.size w6.heap.size w7.heap.size wF.heap.size .ins .vars .steps, { a with t := A8, tc := c8 }, ⟨?_, ?_, ?_, ?_, ?_, ?_, ?_, ?_, ?_, ?_⟩, ?_, ?_⟩
  · exact fun k hk => paint3_lt ⟨by omega, by omega, by omega⟩ (fun k hk => by have := hbw k hk; omega) hk
  · rw [eW gb (by omega)]; exact hgr
  · have b1 := ((((hM.blk.upd hu (fun e => hgf e)).upd hu5 (fun f => f)).upd hU56 (fun e => hgm e)).upd hu7 (fun f => f)).alloc o |>.upd hu8 hgt
    have b2 := b1.set_ 6 (.slice A8 (G.T.length + 1) c8)
    rw [HF.out] at b2
    have : ((G.merge ⟨i, j, y, vs, ms⟩).T.length) = G.T.length + 1 := by simp [EG.merge]
    rw [this]
    exact b2
  · exact hM.l.upd uWF (fun k _ hS => by rcases hd k hS with h | h | h | h <;> rw [h] <;> simp) eW
  · exact hM.s.upd uWF (fun k _ hS => by rcases hd k hS with h | h | h | h <;> rw [h] <;> simp) eW
  · have o1 := ho.upd urF (fun k hk h => by
      rw [At.some_] at hk
      subst hk
      rcases h with h | h | h
      · exact hfm h
      · have := htr _ h; rw [hfr] at this; cases this
      · exact hgf h.symm)
    refine ⟨?_, ?_⟩
    · show Own wF 3 1 a.f (clL G.L (joinc G.c i j)).length a.fc (icells (clL G.L (joinc G.c i j)))
      rw [clL_len, ef]
      unfold clL
      rw [hn]
      exact o1
    · intro k hk
      have hk' : At a.f k := hk
      rw [ef, At.some_] at hk'
      subst hk'
      rw [eW _ (by omega)]
      exact hfr
  · have o1 := hm7.upd u6F (fun k hk h => by
      rw [At.some_] at hk
      subst hk
      rcases h with h | h
      · have := htr _ h; rw [hmr] at this; cases this
      · exact hgm h.symm)
    rw [scells_set hmSl hlo hhi hne] at o1
    have hl2 : (G.merge ⟨i, j, y, vs, ms⟩).L.length = n := hn
    have hc2 : (G.merge ⟨i, j, y, vs, ms⟩).c = joinc G.c i j := by simp [EG.merge]
    show GMm wF _ a.m a.mc _ _
    rw [hl2, hc2]
    refine ⟨(mS.set lo (R, rc)).set hi (none, 0), by simp [hmSl], by rw [em]; exact o1, fun k hk => ?_, fun k hk => ?_⟩
    · rw [em, At.some_] at hk
      subst hk
      rw [eW _ (by omega)]
      exact hmr
    · by_cases e1 : k = hi
      · subst e1
        rw [memL_hi hlo hhi hne]
        exact ⟨.inl rfl, by simp⟩
      · by_cases e2 : k = lo
        · subst e2
          have hg : ((mS.set k (R, rc)).set hi (none, 0)).getD k (none, 0) = (R, rc) := by
            simp [List.getD, hmSl, hk, Ne.symm e1]
          rw [hg]
          have oR := hoR.upd u5F (fun q hq h => by
            have := hRn q hq
            rcases h with h | h | h
            · omega
            · have := hto.lt h; omega
            · omega)
          refine ⟨oR.ints.mono (fun q hq hA => paint3_one (hRn q hA) ?_), hoR.le⟩
          have := hoR.lt hA
          omega
        · have hg : ((mS.set lo (R, rc)).set hi (none, 0)).getD k (none, 0) = mS.getD k (none, 0) := by
            simp [List.getD, Ne.symm e1, Ne.symm e2]
          rw [hg, memL_else hlo hhi e2 e1]
          exact ⟨(hmv k hk).1.upd' uWF (fun k _ hS => by rcases hd k hS with h | h | h | h <;> rw [h] <;> simp) eW, (hmv k hk).2⟩
  · exact hM.o.upd uWF (fun k _ hS => by rcases hd k hS with h | h | h | h <;> rw [h] <;> simp) eW
  · exact hM.x.upd uWF (fun k _ hS => by rcases hd k hS with h | h | h | h <;> rw [h] <;> simp) eW
  · have hat : ∀ k, At A8 k → paint3 ρ W.heap.size w6.heap.size w7.heap.size wF.heap.size .ins .vars .steps k = .steps := fun k hk => by
      have hlt := ho8.lt hk
      rcases hat8 k hk with h | h
      · have := hto.lt h
        rw [eW k this]; exact htr k h
      · simp at h
        exact paint3_three (by omega) (by omega) (by omega) (by omega)
    have hTl : (G.merge ⟨i, j, y, vs, ms⟩).T = G.T ++ [⟨i, j, y, vs, ms⟩] := rfl
    rw [hTl]
    have hlen : (G.T ++ [(⟨i, j, y, vs, ms⟩ : Stp)]).length = G.T.length + 1 := by simp
    have u7F : Upd (fun k => At a.t k ∨ k = gb) w7 wF := (((Upd.refl.alloc o (S := At a.t)).trans hu8 (fun _ _ h => h)).mono (T := fun k => At a.t k ∨ k = gb) (fun _ _ h => .inl h)).trans u8F (fun _ _ h => .inr h)
    have oT := ho8.upd u8F (fun k hk e => by
      rcases hat8 k hk with h | h
      · rw [e] at h; exact hgt h
      · simp at h; omega)
    refine ⟨tcs ++ stpCells ⟨i, j, y, vs, ms⟩ VB MB vd md, by rw [hlen]; exact oT, ?_, hat⟩
    · have t1 : StepCells wF (fun k => paint3 ρ W.heap.size w6.heap.size w7.heap.size wF.heap.size .ins .vars .steps k = .vars) tcs G.T :=
        htc.mono uWF (fun k _ hr hS => by rcases hd k hS with h | h | h | h <;> rw [hr] at h <;> cases h) (fun k hk hr => by rw [eW k hk]; exact hr)
      have mv : ∀ {A : Option Addr} {xs : List Int}, Ints w7 (w6.heap.size ≤ ·) A xs → Ints wF (fun k => paint3 ρ W.heap.size w6.heap.size w7.heap.size wF.heap.size .ins .vars .steps k = .vars) A xs := fun h =>
        ((h.mono (G := fun k => w6.heap.size ≤ k ∧ k < w7.heap.size) (fun k hk h => ⟨h, hk⟩)).upd u7F (fun k hk hr hS => by
          rcases hS with h | h
          · have := hto.lt h; omega
          · omega)).mono (fun k _ h => paint3_two (by omega) h.1 h.2)
      exact t1.snoc (s := ⟨i, j, y, vs, ms⟩) (mv hv) (mv hm) hvd hmd
  · refine (hU.mono (T := Mine ρ) (fun _ _ f => f.elim)).trans uWF (fun k _ hS => ?_)
    rcases hd k hS with h | h | h | h <;> (show ρ k ≠ .no) <;> rw [h] <;> simp
  · exact fun k hk => eW k (by omega)
end Go.Proofs.Ytigambcefdeaoaa

namespace Go.Proofs.Ytigambcefdeaoaa
open Go.RowKit

theorem cell_set_other {w : World} {b i j : Nat} {u v : Value} (h : w.cell? ⟨b, j, none⟩ = some v) (hne : i ≠ j) : (w.setCell ⟨b, i, none⟩ u).cell? ⟨b, j, none⟩ = some v := by
  rw [World.cell?_setCell_other]
  · exact h
  · intro e
    injection e with _ e2
    exact hne e2

theorem GM.fown {w : World} {ρ : Nat → Role} {gb : Nat} {a : GA} {G : EG} (h : GM w ρ gb a G) : Own w 3 1 a.f G.L.length a.fc (icells (clL G.L G.c)) := by
  have := h.f.1
  rwa [clL_len] at this

set_option maxRecDepth 100000 in
set_option maxHeartbeats 4000000 in
theorem gMerge_c (w : World) (ρ : Nat → Role) (gb : Nat) (a : GA) (G : EG) (h : GM w ρ gb a G) (hn : G.L.length ≤ 2000) (hT : G.T.length ≤ 1000000000) (hnm : Named G.L.length G.c) (s : Stp) (i j : Nat) (hi : s.l = i) (hj : s.r = j) (hil : i < G.L.length) (hjl : j < G.L.length) (hne : G.c i ≠ G.c j)
    (VA MA : Option Addr) (vc mc : Nat) (F : Nat → Prop) (hv : Ints w F VA s.vars) (hm : Ints w F MA s.imms) (hF : ∀ k, k < w.heap.size → F k → ρ k = .no) (hvl : s.vars.length ≤ 100000000000) (hml : s.imms.length ≤ 100000000000) :
    Calls Try.prog 38 #[gp gb, .agg #[.int .i64 s.l, .int .i64 s.r, .int .i64 s.why, .slice VA s.vars.length vc, .slice MA s.imms.length mc]] w fun e w' =>
      e = .returned (.tuple #[]) ∧ ∃ ρ' a', GM w' ρ' gb a' (G.merge s) ∧ Upd (Mine ρ) w w' ∧ ∀ k, k < w.heap.size → ρ' k = ρ k := by
  obtain ⟨l, r, y, vs, ms⟩ := s
  dsimp only at hi hj hv hm hvl hml ⊢
  subst hi; subst hj
  have hv0 := hv.mono (G := fun k => k < w.heap.size ∧ ρ k = .no) (fun k hk hf => ⟨hk, hF k hk hf⟩)
  have hm0 := hm.mono (G := fun k => k < w.heap.size ∧ ρ k = .no) (fun k hk hf => ⟨hk, hF k hk hf⟩)
  clear hv hm hF
  obtain ⟨W, HW⟩ := nm (w.alloc (.cells #[.int .i64 (i : Int), .int .i64 (j : Int), .int .i64 y, .slice VA vs.length vc, .slice MA ms.length mc] 34))
  have hU : Upd Non w W := by rw [← HW.out]; exact Upd.refl.alloc _
  have hb : Blk W w.heap.size 34 #[.int .i64 (i : Int), .int .i64 (j : Int), .int .i64 y, .slice VA vs.length vc, .slice MA ms.length mc] := by rw [← HW.out]; exact Blk.new _ _ _
  have hv1 := hv0.upd hU (fun _ _ _ f => f)
  have hm1 := hm0.upd hU (fun _ _ _ f => f)
  have e0 := HW.out
  have hM := h.non hU
  have hgw : gb < w.heap.size := h.blk.lt
  have Hbw := Lib.hid h.bnd
  clear hv0 hm0 h
  have c2 := hM.c2
  obtain ⟨fb, ef, hfb, hci⟩ := hM.fat hil
  obtain ⟨fb', ef', _, hcj⟩ := hM.fat hjl
  obtain rfl : fb = fb' := by rw [ef] at ef'; injection ef' with e; injection e
  clear ef'
  rw [ef] at c2
  have d0 := hb.cell 0
  have d1 := hb.cell 1
  have hfr : ρ fb = .find := hM.f.2 fb (by rw [ef]; exact At.some_.2 rfl)
  have hgr := hM.me
  have hgf : gb ≠ fb := fun e => by rw [e, hfr] at hgr; cases hgr
  have hxl := hnm.le i hil
  have hyl := hnm.le j hjl
  obtain ⟨mS, hmSl, hmo, hmr, hmv⟩ := hM.m
  obtain ⟨mb, em⟩ := hmo.some_ (by omega)
  rw [em] at hmo hmr
  have c3 := hM.c3
  rw [em] at c3
  have hmbr : ρ mb = .mem := hmr mb (At.some_.2 rfl)
  have hfo := hM.fown
  rw [ef] at hfo
  have hgm : gb ≠ mb := fun e => by rw [e, hmbr] at hgr; cases hgr
  have hfm : fb ≠ mb := fun e => by rw [e, hmbr] at hfr; cases hfr
  have hmbw : mb < w.heap.size := Hbw.out mb (by rw [hmbr]; simp)
  have hfbw : fb < w.heap.size := Hbw.out fb (by rw [hfr]; simp)
  have hcm : ∀ k, k < G.L.length → W.cell? ⟨mb, k, none⟩ = some (.slice (mS.getD k (none, 0)).1 (memL G.L.length G.c k).length (mS.getD k (none, 0)).2) := fun k hk => by
    have hk' : k < (scells G.L.length G.c mS).length := by simp [scells]; exact hk
    rw [hmo.cell_ hk']
    simp [scells]
  have HCM := Lib.hid hcm
  have HMV := Lib.hid hmv
  have hci2 := hnm.lt hil
  have hcj2 := hnm.lt hjl
  clear hcm hmv
  have hcl : clL G.L G.c = (List.range G.L.length).map fun k => (G.c k : Int) := rfl
  rw [hcl] at hfo
  clear hcl
  have HNM := Lib.hid hnm
  clear hnm
  obtain ⟨n, Hn⟩ := nm G.L.length
  rw [Hn.out] at hn hil hjl c2 c3 hfo hmo HCM HMV hci2 hcj2 hmSl
  obtain ⟨x, Hx⟩ := nm (G.c i)
  obtain ⟨z, Hz⟩ := nm (G.c j)
  rw [Hx.out] at hci hxl hne hci2
  rw [Hz.out] at hcj hyl hne hcj2
  have hMM := Lib.hid hM
  clear hM
  unfold gp
  obtain ⟨lo, hlo⟩ : ∃ lo, min x z = lo := ⟨_, rfl⟩
  obtain ⟨hi, hhi⟩ : ∃ hi, max x z = hi := ⟨_, rfl⟩
  have Hmin : Hid (min (G.c i) (G.c j) = lo) := by show _ = _; rw [Hx.out, Hz.out]; omega
  have Hmax : Hid (max (G.c i) (G.c j) = hi) := by show _ = _; rw [Hx.out, Hz.out]; omega
  have hlohi : lo < hi := by omega
  have hlon : lo < n := by omega
  have hhin : hi < n := by omega
  have cl := HCM.out lo (by omega)
  have ch := HCM.out hi (by omega)
  obtain ⟨hlv, hlc⟩ := HMV.out lo (by omega)
  obtain ⟨hhv, hhc⟩ := HMV.out hi (by omega)
  have hll := memL_length_le (n := n) (c := G.c) (hi := lo)
  have hhl := memL_length_le (n := n) (c := G.c) (hi := hi)
  generalize (mS.getD lo (none, 0)).1 = LA at *
  generalize (mS.getD lo (none, 0)).2 = lcap at *
  generalize (mS.getD hi (none, 0)).1 = HA at *
  generalize (mS.getD hi (none, 0)).2 = hcap at *
  have HT0 : Hid (turned n G.c lo hi 0 = (List.range n).map fun k => (G.c k : Int)) := rfl
  have HTS := Lib.hid (fun t => turned_succ (n := n) (c := G.c) (lo := lo) (hi := hi) (t := t))
  have HTL := Lib.hid (fun t => turned_len (n := n) (c := G.c) (lo := lo) (hi := hi) t)
  have HTA := Lib.hid (turned_all (n := n) Hmin.out Hmax.out)
  have HMG := Lib.hid (fun t => memL_get (n := n) (c := G.c) (hi := hi) (t := t))
  have HML := Lib.hid (memL_lo (n := n) Hmin.out Hmax.out (by omega))
  have HMH := Lib.hid (memL_hi (n := n) Hmin.out Hmax.out (by omega))
  obtain ⟨xs, Hxs⟩ := nm (memL n G.c hi)
  obtain ⟨ls, Hls⟩ := nm (memL n G.c lo)
  simp only [Hxs.out] at ch hhv hhc hhl HTS HTA HMG HML
  simp only [Hls.out] at cl hlv hlc hll HML
  go_enter Try.func38, Try.ntmps38
  go_wp2_with fail
  go_quiet (fail)
  go_upto_if 26 with fail
  go_cut [4, 5] (fun s4 s5 wx => s4 = .int .i64 (lo : Int) ∧ s5 = .int .i64 (hi : Int) ∧ wx = W.drewN nq)
  case first =>
    by_cases hzx : z < x
    · obtain rfl : z = lo := by omega
      obtain rfl : x = hi := by omega
      go_wp2_with fail
      go_meet
      exact ⟨rfl, rfl, rfl⟩
    · obtain rfl : x = lo := by omega
      obtain rfl : z = hi := by omega
      go_wp2_with fail
      go_meet
      exact ⟨rfl, rfl, rfl⟩
  case rest =>
  obtain ⟨rfl, rfl, rfl⟩ := hcut
  clear hci hcj Hx Hz hxl hyl hlo hhi
  go_wp2_with fail
  go_loopg [7, 37] xs.length (fun g _ iv wr => ∃ t : Nat, Hid (g = xs.length - t) ∧ t ≤ xs.length ∧ iv = .int .i64 t ∧ Own wr 3 1 (some ⟨fb, 0, none⟩) n a.fc (icells (turned n G.c lo hi t)) ∧ Upd (· = fb) W wr)
  case atStart => exact ⟨0, rfl, by omega, rfl, by rw [HT0.out]; exact hfo, Upd.refl.drewN nq⟩
  case round =>
    clear hfo d0 d1
    obtain ⟨t, Hg, ht, rfl, ho, hu⟩ := hrel
    have cg2 := cell_upd c2 hu hgf
    by_cases hlt : t < xs.length
    · obtain ⟨hb1, ho1, rfl, hhr, hhb, hch⟩ := (hhv.upd hu (fun k hk hr e => by rw [e, hfr] at hr; cases hr)).at_ hlt
      obtain ⟨q, hq1, hq2, hq3⟩ := HMG.out t hlt
      have hts := HTS.out t hlt
      rw [hq1] at hch hts
      rw [Int.toNat_natCast] at hts
      obtain ⟨v, cv⟩ : ∃ v, wr.cell? ⟨fb, q, none⟩ = some (.int .i64 v) := ⟨_, by rw [ho.cell_ (by simp [icells, HTL.out t]; omega)]; simp [icells]; rfl⟩
      have fv := ho.frozen_ q
      have ho2 := ho.set_ q (.int .i64 (lo : Int))
      rw [show (icells (turned n G.c lo hi t)).set q (.int .i64 (lo : Int)) = icells (turned n G.c lo hi (t + 1)) by rw [hts]; simp [icells, List.map_set]] at ho2
      have hu2 := hu.setCell (p := ⟨fb, q, none⟩) (.inl rfl) (.int .i64 (lo : Int))
      clear hts hq1 hq3 ho
      go_wp2_with fail
      go_roundg (xs.length - (t + 1))
      case measure => rw [Hg.out]; omega
      case rel => exact ⟨t + 1, rfl, by omega, by go_num, ho2, hu2⟩
    · obtain rfl : xs.length = t := by omega
      rw [HTA.out] at ho
      have cg3 := cell_upd c3 hu hgf
      have clw := cell_upd cl hu (fun e => hfm e.symm)
      have chw := cell_upd ch hu (fun e => hfm e.symm)
      have hlw := hlv.upd hu (fun k hk hr e => by rw [e, hfr] at hr; cases hr)
      have hhw := hhv.upd hu (fun k hk hr e => by rw [e, hfr] at hr; cases hr)
      have hmw := hmo.upd hu (fun k hk e => by rw [At.some_] at hk; omega)
      clear cl ch c3 c2 cg2
      go_wp2_with fail
      have C5 := Lib.hid (mergeSorted_c wr.drew (fun k => ρ k = .ins) LA HA lcap hcap ls xs (hlw.upd (Upd.refl.drew (S := Non)) (fun _ _ _ f => f)) (hhw.upd (Upd.refl.drew (S := Non)) (fun _ _ _ f => f)) hlc hhc (by omega) (by omega))
      rw [← HML.out] at C5
      have i1 : (0 : Int) ≤ (lo : Int) := by omega
      have i2 : (lo : Int) < (n : Int) := by omega
      have i3 : (0 : Int) ≤ (hi : Int) := by omega
      have i4 : (hi : Int) < (n : Int) := by omega
      obtain ⟨M, HMd⟩ := nm (memL n (joinc G.c i j) lo)
      rw [HMd.out] at C5
      go_cut [68] (fun _ wx => ∃ (R : Option Addr) (rc : Nat) (w5 : World), Own w5 3 1 R M.length rc (icells M) ∧ Hid (∀ k, At R k → W.heap.size ≤ k) ∧ Upd Non wr w5 ∧ wx = w5.setCell ⟨mb, lo, none⟩ (.slice R M.length rc))
      case first =>
        have k0 : wr.drew.cell? ⟨gb, 3, none⟩ = some (.slice (some ⟨mb, 0, none⟩) n a.mc) ∧ wr.drew.cell? ⟨mb, hi, none⟩ = some (.slice HA xs.length hcap) := ⟨cg3, chw⟩
        refine wp_region_held_drew (S := fun w' => w'.cell? ⟨gb, 3, none⟩ = some (.slice (some ⟨mb, 0, none⟩) n a.mc) ∧ w'.cell? ⟨mb, hi, none⟩ = some (.slice HA xs.length hcap)) (by kernel_rfl) k0 (fun hHeld => ?_)
        refine wpAnyH_take (i := 0) (v := ?_) rfl (by kernel_rfl) (by kernel_rfl) (by kernel_rfl) (fun _ _ _ h => h) (Or.inl ⟨by rfl, ?_⟩) (by assumption) ?_
        rotate_left
        · intro w hSw; (try dsimp only at hSw); go_simp; try with_reducible rfl
        try simp only [put_z]
        refine wpAnyH_take (i := 1) (v := ?_) rfl (by kernel_rfl) (by kernel_rfl) (by kernel_rfl) (fun _ _ _ h => h) (Or.inl ⟨by rfl, ?_⟩) (by assumption) ?_
        rotate_left
        · intro w hSw; (try dsimp only at hSw); go_simp; try with_reducible rfl
        try simp only [put_z]
        refine wpAnyH_take (i := 2) (v := ?_) rfl (by kernel_rfl) (by kernel_rfl) (by kernel_rfl) (fun _ _ _ h => h) (Or.inl ⟨by rfl, ?_⟩) (by assumption) ?_
        rotate_left
        · intro w hSw; (try dsimp only at hSw); go_simp; try with_reducible rfl
        try simp only [put_z]
        refine wpAnyH_take (i := 3) (v := ?_) rfl (by kernel_rfl) (by kernel_rfl) (by kernel_rfl) (fun _ _ _ h => h) (Or.inl ⟨by rfl, ?_⟩) (by assumption) ?_
        rotate_left
        · intro w hSw; (try dsimp only at hSw); go_simp; try with_reducible rfl
        try simp only [put_z]
        refine wpAnyH_take (i := 4) (v := ?_) rfl (by kernel_rfl) (by kernel_rfl) (by kernel_rfl) (fun _ _ _ h => h) (Or.inl ⟨by rfl, ?_⟩) (by assumption) ?_
        rotate_left
        · intro w hSw; (try dsimp only at hSw); go_simp; try with_reducible rfl
        try simp only [put_z]
        refine wpAnyH_take (i := 5) (v := ?_) rfl (by kernel_rfl) (by kernel_rfl) (by kernel_rfl) (fun _ _ _ h => h) (Or.inl ⟨by rfl, ?_⟩) (by assumption) ?_
        rotate_left
        · intro w hSw; (try dsimp only at hSw); go_simp; try with_reducible rfl
        try simp only [put_z]
        refine wpAnyH_take (i := 6) (v := ?_) rfl (by kernel_rfl) (by kernel_rfl) (by kernel_rfl) (fun _ _ _ h => h) (Or.inl ⟨by rfl, ?_⟩) (by assumption) ?_
        rotate_left
        · intro w hSw; (try dsimp only at hSw); go_simp; try with_reducible rfl
        try simp only [put_z]
        refine wpAnyH_take (i := 7) (v := ?_) rfl (by kernel_rfl) (by kernel_rfl) (by kernel_rfl) (fun _ _ _ h => h) (Or.inl ⟨by rfl, ?_⟩) (by assumption) ?_
        rotate_left
        · intro w hSw; (try dsimp only at hSw); go_simp; try with_reducible rfl
        try simp only [put_z]
        refine wpAnyH_take (i := 8) (v := ?_) rfl (by kernel_rfl) (by kernel_rfl) (by kernel_rfl) (fun _ _ _ h => h) (Or.inl ⟨by rfl, ?_⟩) (by assumption) ?_
        rotate_left
        · intro w hSw; (try dsimp only at hSw); go_simp; try with_reducible rfl
        try simp only [put_z]
        refine wpAnyH_take (i := 9) (v := ?_) rfl (by kernel_rfl) (by kernel_rfl) (by kernel_rfl) (fun _ _ _ h => h) (Or.inl ⟨by rfl, ?_⟩) (by assumption) ?_
        rotate_left
        · intro w hSw; (try dsimp only at hSw); go_simp; try with_reducible rfl
        try simp only [put_z]
        refine wpAnyH_take (i := 10) (v := ?_) rfl (by kernel_rfl) (by kernel_rfl) (by kernel_rfl) (fun _ _ _ h => h) (Or.inl ⟨by rfl, ?_⟩) (by assumption) ?_
        rotate_left
        · intro w hSw; (try dsimp only at hSw); go_simp; try with_reducible rfl
        try simp only [put_z]
        refine wpAnyH_take (i := 12) (v := ?_) rfl (by kernel_rfl) (by kernel_rfl) (by kernel_rfl) (fun _ _ _ h => h) (Or.inl ⟨by rfl, ?_⟩) (by assumption) ?_
        rotate_left
        · intro w hSw; (try dsimp only at hSw); go_simp; try with_reducible rfl
        try simp only [put_z]
        refine wpAnyH_take (i := 13) (v := ?_) rfl (by kernel_rfl) (by kernel_rfl) (by kernel_rfl) (fun _ _ _ h => h) (Or.inl ⟨by rfl, ?_⟩) (by assumption) ?_
        rotate_left
        · intro w hSw; (try dsimp only at hSw); go_simp; try with_reducible rfl
        try simp only [put_z]
        refine wpAnyH_take (i := 14) (v := ?_) rfl (by kernel_rfl) (by kernel_rfl) (by kernel_rfl) (fun _ _ _ h => h) (Or.inl ⟨by rfl, ?_⟩) (by assumption) ?_
        rotate_left
        · intro w hSw; (try dsimp only at hSw); go_simp; try with_reducible rfl
        try simp only [put_z]
        refine wpAnyH_take (i := 15) (v := ?_) rfl (by kernel_rfl) (by kernel_rfl) (by kernel_rfl) (fun _ _ _ h => h) (Or.inl ⟨by rfl, ?_⟩) (by assumption) ?_
        rotate_left
        · intro w hSw; (try dsimp only at hSw); go_simp; try with_reducible rfl
        try simp only [put_z]
        refine wpAnyH_take (i := 16) (v := ?_) rfl (by kernel_rfl) (by kernel_rfl) (by kernel_rfl) (fun _ _ _ h => h) (Or.inl ⟨by rfl, ?_⟩) (by assumption) ?_
        rotate_left
        · intro w hSw; (try dsimp only at hSw); go_simp; try with_reducible rfl
        try simp only [put_z]
        refine wpAnyH_take (i := 17) (v := ?_) rfl (by kernel_rfl) (by kernel_rfl) (by kernel_rfl) (fun _ _ _ h => h) (Or.inl ⟨by rfl, ?_⟩) (by assumption) ?_
        rotate_left
        · intro w hSw; (try dsimp only at hSw); go_simp; try with_reducible rfl
        try simp only [put_z]
        refine wpAnyH_take (i := 18) (v := ?_) rfl (by kernel_rfl) (by kernel_rfl) (by kernel_rfl) (fun _ _ _ h => h) (Or.inl ⟨by rfl, ?_⟩) (by assumption) ?_
        rotate_left
        · intro w hSw; (try dsimp only at hSw); go_simp; try with_reducible rfl
        try simp only [put_z]
        refine wpAnyH_ready (rs := [11]) (by kernel_rfl) (by simp) ?_
        refine AllReadyH.cons rfl (fun K hK => ?_) AllReadyH.nil
        go_simp
        refine hK.out _ _ ?_ (fun hHeld => ?_)
        · exact k0
        clear hK K
        try simp only [put_z]
        refine wpAnyH_ready (rs := [19]) (by kernel_rfl) (by simp) ?_
        refine AllReadyH.cons rfl (fun K hK => ?_) AllReadyH.nil
        go_simp
        refine C5.out.mono ?_
        rintro e w5 ⟨R, rc, rfl, hoR, hRn, hu5'⟩
        have hu5 : Upd Non wr w5 := Upd.refl.drew.then_non hu5'
        have k5 : w5.cell? ⟨gb, 3, none⟩ = some (.slice (some ⟨mb, 0, none⟩) n a.mc) ∧ w5.cell? ⟨mb, hi, none⟩ = some (.slice HA xs.length hcap) := ⟨cell_upd cg3 hu5 (fun f => f), cell_upd chw hu5 (fun f => f)⟩
        have k2 := cell_upd clw hu5 (fun f => f)
        have hm5 := hmw.upd hu5 (fun _ _ f => f)
        have f5 := hm5.frozen_ lo
        go_wp2_with fail
        refine hK.out _ _ ?_ (fun hHeld => ?_)
        · exact k5
        clear hK K
        try simp only [put_z]
        refine wpAnyH_take (i := 20) (v := ?_) rfl (by kernel_rfl) (by kernel_rfl) (by kernel_rfl) (fun _ _ _ h => h) (Or.inl ⟨by rfl, ?_⟩) (by assumption) ?_
        rotate_left
        · intro w hSw; (try dsimp only at hSw); go_simp; try with_reducible rfl
        try simp only [put_z]
        refine wpAnyH_ready (rs := [21]) (by kernel_rfl) (by simp) ?_
        refine AllReadyH.cons rfl (fun K hK => ?_) AllReadyH.nil
        go_simp
        refine hK.out _ _ ?_ (fun hHeld => ?_)
        · exact ⟨cell_upd k5.1 (updCell w5 mb lo _) hgm, cell_set_other k5.2 (by omega)⟩
        clear hK K
        try simp only [put_z]
        refine wpAnyH_done (by kernel_rfl) ?_ _
        go_wp2_with fail
        go_meet
        exact ⟨R, rc, w5, hoR, fun k hk => Nat.le_trans hu.size (hRn k hk), hu5, rfl⟩
      case rest =>
      obtain ⟨R, rc, w5, hoR, HRn, hu5, rfl⟩ := hcut
      have hm5 := hmw.upd hu5 (fun _ _ f => f)
      have k5 := cell_upd cg3 hu5 (fun f => f)
      have hm6 := hm5.set_ lo (.slice R M.length rc)
      have cg6 := cell_upd k5 (updCell w5 mb lo (.slice R M.length rc)) hgm
      obtain ⟨v6, c6⟩ : ∃ v, (w5.setCell ⟨mb, lo, none⟩ (.slice R M.length rc)).cell? ⟨mb, hi, none⟩ = some v := ⟨_, hm6.cell_ (by simp [scells]; omega)⟩
      have f6 := hm6.frozen_ hi
      have hm7 := hm6.set_ hi (.slice none 0 0)
      have hU6 : Upd (fun k => k = fb ∨ k = mb) W ((w5.setCell ⟨mb, lo, none⟩ (.slice R M.length rc)).setCell ⟨mb, hi, none⟩ (.slice none 0 0)) :=
        (((hu.mono (T := fun k => k = fb ∨ k = mb) (fun k _ e => .inl e)).then_non hu5).setCell (p := ⟨mb, lo, none⟩) (.inl (.inr rfl)) _).setCell (p := ⟨mb, hi, none⟩) (.inl (.inr rfl)) _
      obtain ⟨w6, H6⟩ := nm ((w5.setCell ⟨mb, lo, none⟩ (.slice R M.length rc)).setCell ⟨mb, hi, none⟩ (.slice none 0 0))
      rw [H6.out] at hm7 hU6
      have e6 := H6.out
      have hb6 := hb.upd hU6 (fun h => by omega)
      have b0 := hb6.cell 0
      have b1 := hb6.cell 1
      have b2 := hb6.cell 2
      have b3 := hb6.cell 3
      have b4 := hb6.cell 4
      have hMMb := hMM.out.blk.upd hU6 (fun h => by omega)
      have c66 : w6.cell? ⟨gb, 6, none⟩ = some (.slice a.t G.T.length a.tc) := hMMb.cell 6
      obtain ⟨tcs, hto, htc, htr⟩ := hMM.out.t
      have hto6 := hto.upd hU6 (fun k hk h => by have := htr k hk; rcases h with rfl | rfl; rw [hfr] at this; cases this; rw [hmbr] at this; cases this)
      have hv6 := hv1.upd hU6 (fun k _ hk h => by have := hk.2; rcases h with rfl | rfl; rw [hfr] at this; cases this; rw [hmbr] at this; cases this)
      have hm6' := hm1.upd hU6 (fun k _ hk h => by have := hk.2; rcases h with rfl | rfl; rw [hfr] at this; cases this; rw [hmbr] at this; cases this)
      have C7 := Lib.hid (cloneStep_c w6.drew ⟨i, j, y, vs, ms⟩ VA MA vc mc (fun k => k < w.heap.size ∧ ρ k = .no) hv6 hm6' hvl hml)
      dsimp only at C7
      go_wp2_with fail
      have hgt : ¬ At a.t gb := fun h => by have := htr gb h; rw [hgr] at this; cases this
      have htW : ∀ k, At a.t k → k < w.heap.size := fun k hk => Hbw.out k (by rw [htr k hk]; simp)
      have hU56 : Upd (· = mb) w5 w6 := by
        rw [← H6.out]
        exact (updCell w5 mb lo _).trans (updCell _ mb hi _) (fun _ _ h => h)
      have sbox : ∀ w', Upd Non w6 w' → w'.cell? ⟨w.heap.size, 0, none⟩ = some (.int .i64 (i : Int)) ∧ w'.cell? ⟨w.heap.size, 1, none⟩ = some (.int .i64 (j : Int)) ∧ w'.cell? ⟨w.heap.size, 2, none⟩ = some (.int .i64 y) ∧ w'.cell? ⟨w.heap.size, 3, none⟩ = some (.slice VA vs.length vc) ∧ w'.cell? ⟨w.heap.size, 4, none⟩ = some (.slice MA ms.length mc) := fun w' u =>
        ⟨cell_upd b0 u (fun f => f), cell_upd b1 u (fun f => f), cell_upd b2 u (fun f => f), cell_upd b3 u (fun f => f), cell_upd b4 u (fun f => f)⟩
      have sbox8 : ∀ (w7 w' : World) (o : Obj), Upd Non w6 w7 → Upd (At a.t) (w7.alloc o) w' → w'.cell? ⟨w.heap.size, 0, none⟩ = some (.int .i64 (i : Int)) ∧ w'.cell? ⟨w.heap.size, 1, none⟩ = some (.int .i64 (j : Int)) ∧ w'.cell? ⟨w.heap.size, 2, none⟩ = some (.int .i64 y) ∧ w'.cell? ⟨w.heap.size, 3, none⟩ = some (.slice VA vs.length vc) ∧ w'.cell? ⟨w.heap.size, 4, none⟩ = some (.slice MA ms.length mc) := fun w7 w' o u u2 => by
        obtain ⟨p0, p1, p2, p3, p4⟩ := sbox _ (u.alloc o)
        have hno : ¬ At a.t w.heap.size := fun h => by have := htW _ h; omega
        exact ⟨cell_upd p0 u2 hno, cell_upd p1 u2 hno, cell_upd p2 u2 hno, cell_upd p3 u2 hno, cell_upd p4 u2 hno⟩
      have sboxF : ∀ (w0 : World) (v : Value), (fun w' : World => w'.cell? ⟨w.heap.size, 0, none⟩ = some (.int .i64 (i : Int)) ∧ w'.cell? ⟨w.heap.size, 1, none⟩ = some (.int .i64 (j : Int)) ∧ w'.cell? ⟨w.heap.size, 2, none⟩ = some (.int .i64 y) ∧ w'.cell? ⟨w.heap.size, 3, none⟩ = some (.slice VA vs.length vc) ∧ w'.cell? ⟨w.heap.size, 4, none⟩ = some (.slice MA ms.length mc)) w0 → (fun w' : World => w'.cell? ⟨w.heap.size, 0, none⟩ = some (.int .i64 (i : Int)) ∧ w'.cell? ⟨w.heap.size, 1, none⟩ = some (.int .i64 (j : Int)) ∧ w'.cell? ⟨w.heap.size, 2, none⟩ = some (.int .i64 y) ∧ w'.cell? ⟨w.heap.size, 3, none⟩ = some (.slice VA vs.length vc) ∧ w'.cell? ⟨w.heap.size, 4, none⟩ = some (.slice MA ms.length mc)) (w0.setCell ⟨gb, 6, none⟩ v) := fun w0 v hp => by
        have hno : w.heap.size ≠ gb := by omega
        obtain ⟨p0, p1, p2, p3, p4⟩ := hp
        exact ⟨cell_upd p0 (updCell w0 gb 6 v) hno, cell_upd p1 (updCell w0 gb 6 v) hno, cell_upd p2 (updCell w0 gb 6 v) hno, cell_upd p3 (updCell w0 gb 6 v) hno, cell_upd p4 (updCell w0 gb 6 v) hno⟩
      have q6 := sbox _ (Upd.refl (S := Non)).drew
      refine wp_region_held_drew (S := fun w' => w'.cell? ⟨w.heap.size, 0, none⟩ = some (.int .i64 (i : Int)) ∧ w'.cell? ⟨w.heap.size, 1, none⟩ = some (.int .i64 (j : Int)) ∧ w'.cell? ⟨w.heap.size, 2, none⟩ = some (.int .i64 y) ∧ w'.cell? ⟨w.heap.size, 3, none⟩ = some (.slice VA vs.length vc) ∧ w'.cell? ⟨w.heap.size, 4, none⟩ = some (.slice MA ms.length mc)) (by kernel_rfl) q6 (fun hHeld => ?_)
      refine wpAnyH_take (i := 0) (v := ?_) rfl (by kernel_rfl) (by kernel_rfl) (by kernel_rfl) (fun _ _ _ h => h) (Or.inl ⟨by rfl, ?_⟩) (by assumption) ?_
      rotate_left
      · intro w hSw; (try dsimp only at hSw); go_simp; try with_reducible rfl
      try simp only [put_z]
      refine wpAnyH_take (i := 1) (v := ?_) rfl (by kernel_rfl) (by kernel_rfl) (by kernel_rfl) (fun _ _ _ h => h) (Or.inl ⟨by rfl, ?_⟩) (by assumption) ?_
      rotate_left
      · intro w hSw; (try dsimp only at hSw); go_simp; try with_reducible rfl
      try simp only [put_z]
      refine wpAnyH_take (i := 2) (v := ?_) rfl (by kernel_rfl) (by kernel_rfl) (by kernel_rfl) (fun _ _ _ h => h) (Or.inl ⟨by rfl, ?_⟩) (by assumption) ?_
      rotate_left
      · intro w hSw; (try dsimp only at hSw); go_simp; try with_reducible rfl
      try simp only [put_z]
      refine wpAnyH_take (i := 3) (v := ?_) rfl (by kernel_rfl) (by kernel_rfl) (by kernel_rfl) (fun _ _ _ h => h) (Or.inl ⟨by rfl, ?_⟩) (by assumption) ?_
      rotate_left
      · intro w hSw; (try dsimp only at hSw); go_simp; try with_reducible rfl
      try simp only [put_z]
      refine wpAnyH_take (i := 5) (v := ?_) rfl (by kernel_rfl) (by kernel_rfl) (by kernel_rfl) (fun _ _ _ h => h) (Or.inl ⟨by rfl, ?_⟩) (by assumption) ?_
      rotate_left
      · intro w hSw; (try dsimp only at hSw); go_simp; try with_reducible rfl
      try simp only [put_z]
      refine wpAnyH_ready (rs := [4, 6]) (by kernel_rfl) (by simp) ?_
      refine AllReadyH.cons rfl (fun K hK => ?_) (AllReadyH.cons rfl (fun K hK => ?_) AllReadyH.nil)
      · go_simp
        refine hK.out _ _ ?_ (fun hHeld => ?_)
        · exact q6
        clear hK K
        try simp only [put_z]
        refine wpAnyH_ready (rs := [6]) (by kernel_rfl) (by simp) ?_
        refine AllReadyH.cons rfl (fun K hK => ?_) AllReadyH.nil
        go_simp
        refine C7.out.mono ?_
        rintro e w7 ⟨VB, vd, MB, md, rfl, hV7, hM7, hvd, hmd, hu7'⟩
        have hu7 : Upd Non w6 w7 := Upd.refl.drew.then_non hu7'
        have q7 := sbox w7 hu7
        have c67 := cell_upd c66 hu7 (fun f => f)
        have cA7 := cell_upd c67 (Upd.refl.alloc (.cells #[.int .i64 (i : Int), .int .i64 (j : Int), .int .i64 y, .slice VB vs.length vd, .slice MB ms.length md] 34) (S := Non)) (fun f => f)
        have qA7 := sbox _ (hu7.alloc (.cells #[.int .i64 (i : Int), .int .i64 (j : Int), .int .i64 y, .slice VB vs.length vd, .slice MB ms.length md] 34))
        have ho7 := (hto6.upd hu7 (fun _ _ f => f)).alloc (.cells #[.int .i64 (i : Int), .int .i64 (j : Int), .int .i64 y, .slice VB vs.length vd, .slice MB ms.length md] 34)
        go_wp2_with fail
        refine hK.out _ _ ?_ (fun hHeld => ?_)
        · exact q7
        clear hK K
        try simp only [put_z]
        refine wpAnyH_ready (rs := [7]) (by kernel_rfl) (by simp) ?_
        refine AllReadyH.cons rfl (fun K hK => ?_) AllReadyH.nil
        go_simp
        refine hK.out _ _ ?_ (fun hHeld => ?_)
        · exact qA7
        clear hK K
        try simp only [put_z]
        refine wpAnyH_ready (rs := [8]) (by kernel_rfl) (by simp) ?_
        refine AllReadyH.cons rfl (fun K hK => ?_) AllReadyH.nil
        refine step_app rfl rfl T_steps rfl ho7 rfl (Sl.new _ _ _) rfl (by simp [Value.oneCell']) (by simp only [maxLen]; omega) (by omega) ?_
        intro A8 c8 w8 ho8 hu8 hat8
        have hb8 := (hMMb.upd hu7 (fun f => f)).alloc (.cells #[.int .i64 (i : Int), .int .i64 (j : Int), .int .i64 y, .slice VB vs.length vd, .slice MB ms.length md] 34) |>.upd hu8 hgt
        have c68 := hb8.cell 6
        have f68 := hb8.frozen 6
        have q8 := sbox8 w7 w8 _ hu7 hu8
        refine hK.out _ _ ?_ (fun hHeld => ?_)
        · exact q8
        clear hK K
        try simp only [put_z]
        refine wpAnyH_take (i := 9) (v := ?_) rfl (by kernel_rfl) (by kernel_rfl) (by kernel_rfl) (fun _ _ _ h => h) (Or.inl ⟨by rfl, ?_⟩) (by assumption) ?_
        rotate_left
        · intro w hSw; (try dsimp only at hSw); go_simp; try with_reducible rfl
        try simp only [put_z]
        refine wpAnyH_take (i := 10) (v := ?_) rfl (by kernel_rfl) (by kernel_rfl) (by kernel_rfl) (fun _ _ _ h => h) (Or.inl ⟨by rfl, ?_⟩) (by assumption) ?_
        rotate_left
        · intro w hSw; (try dsimp only at hSw); go_simp; try with_reducible rfl
        try simp only [put_z]
        refine wpAnyH_ready (rs := [11]) (by kernel_rfl) (by simp) ?_
        refine AllReadyH.cons rfl (fun K hK => ?_) AllReadyH.nil
        go_simp
        refine hK.out _ _ ?_ (fun hHeld => ?_)
        · exact sboxF _ _ q8
        clear hK K
        try simp only [put_z]
        refine wpAnyH_done (by kernel_rfl) ?_ _
        go_wp2_with fail
        go_end0
        refine ⟨rfl, ?_⟩
        rw [← HMd.out] at hoR hm7
        exact merge_fin hU hMM.out Hbw.out Hn.out ef em hmSl HMV.out Hmin.out Hmax.out (by omega) hfr hmbr ho hu hu5 hoR HRn.out hm7 hU56 hu7 hV7 hM7 hvd hmd hto htc htr ho8 hu8 hat8
      · go_simp
        refine C7.out.mono ?_
        rintro e w7 ⟨VB, vd, MB, md, rfl, hV7, hM7, hvd, hmd, hu7'⟩
        have hu7 : Upd Non w6 w7 := Upd.refl.drew.then_non hu7'
        have q7 := sbox w7 hu7
        have c67 := cell_upd c66 hu7 (fun f => f)
        have cA7 := cell_upd c67 (Upd.refl.alloc (.cells #[.int .i64 (i : Int), .int .i64 (j : Int), .int .i64 y, .slice VB vs.length vd, .slice MB ms.length md] 34) (S := Non)) (fun f => f)
        have qA7 := sbox _ (hu7.alloc (.cells #[.int .i64 (i : Int), .int .i64 (j : Int), .int .i64 y, .slice VB vs.length vd, .slice MB ms.length md] 34))
        have ho7 := (hto6.upd hu7 (fun _ _ f => f)).alloc (.cells #[.int .i64 (i : Int), .int .i64 (j : Int), .int .i64 y, .slice VB vs.length vd, .slice MB ms.length md] 34)
        go_wp2_with fail
        refine hK.out _ _ ?_ (fun hHeld => ?_)
        · exact q7
        clear hK K
        try simp only [put_z]
        refine wpAnyH_ready (rs := [4, 7]) (by kernel_rfl) (by simp) ?_
        refine AllReadyH.cons rfl (fun K hK => ?_) (AllReadyH.cons rfl (fun K hK => ?_) AllReadyH.nil)
        · go_simp
          refine hK.out _ _ ?_ (fun hHeld => ?_)
          · exact q7
          clear hK K
          try simp only [put_z]
          refine wpAnyH_ready (rs := [7]) (by kernel_rfl) (by simp) ?_
          refine AllReadyH.cons rfl (fun K hK => ?_) AllReadyH.nil
          go_simp
          refine hK.out _ _ ?_ (fun hHeld => ?_)
          · exact qA7
          clear hK K
          try simp only [put_z]
          refine wpAnyH_ready (rs := [8]) (by kernel_rfl) (by simp) ?_
          refine AllReadyH.cons rfl (fun K hK => ?_) AllReadyH.nil
          refine step_app rfl rfl T_steps rfl ho7 rfl (Sl.new _ _ _) rfl (by simp [Value.oneCell']) (by simp only [maxLen]; omega) (by omega) ?_
          intro A8 c8 w8 ho8 hu8 hat8
          have hb8 := (hMMb.upd hu7 (fun f => f)).alloc (.cells #[.int .i64 (i : Int), .int .i64 (j : Int), .int .i64 y, .slice VB vs.length vd, .slice MB ms.length md] 34) |>.upd hu8 hgt
          have c68 := hb8.cell 6
          have f68 := hb8.frozen 6
          have q8 := sbox8 w7 w8 _ hu7 hu8
          refine hK.out _ _ ?_ (fun hHeld => ?_)
          · exact q8
          clear hK K
          try simp only [put_z]
          refine wpAnyH_take (i := 9) (v := ?_) rfl (by kernel_rfl) (by kernel_rfl) (by kernel_rfl) (fun _ _ _ h => h) (Or.inl ⟨by rfl, ?_⟩) (by assumption) ?_
          rotate_left
          · intro w hSw; (try dsimp only at hSw); go_simp; try with_reducible rfl
          try simp only [put_z]
          refine wpAnyH_take (i := 10) (v := ?_) rfl (by kernel_rfl) (by kernel_rfl) (by kernel_rfl) (fun _ _ _ h => h) (Or.inl ⟨by rfl, ?_⟩) (by assumption) ?_
          rotate_left
          · intro w hSw; (try dsimp only at hSw); go_simp; try with_reducible rfl
          try simp only [put_z]
          refine wpAnyH_ready (rs := [11]) (by kernel_rfl) (by simp) ?_
          refine AllReadyH.cons rfl (fun K hK => ?_) AllReadyH.nil
          go_simp
          refine hK.out _ _ ?_ (fun hHeld => ?_)
          · exact sboxF _ _ q8
          clear hK K
          try simp only [put_z]
          refine wpAnyH_done (by kernel_rfl) ?_ _
          go_wp2_with fail
          go_end0
          refine ⟨rfl, ?_⟩
          rw [← HMd.out] at hoR hm7
          exact merge_fin hU hMM.out Hbw.out Hn.out ef em hmSl HMV.out Hmin.out Hmax.out (by omega) hfr hmbr ho hu hu5 hoR HRn.out hm7 hU56 hu7 hV7 hM7 hvd hmd hto htc htr ho8 hu8 hat8
        · go_simp
          refine hK.out _ _ ?_ (fun hHeld => ?_)
          · exact qA7
          clear hK K
          try simp only [put_z]
          refine wpAnyH_ready (rs := [4]) (by kernel_rfl) (by simp) ?_
          refine AllReadyH.cons rfl (fun K hK => ?_) AllReadyH.nil
          go_simp
          refine hK.out _ _ ?_ (fun hHeld => ?_)
          · exact qA7
          clear hK K
          try simp only [put_z]
          refine wpAnyH_ready (rs := [8]) (by kernel_rfl) (by simp) ?_
          refine AllReadyH.cons rfl (fun K hK => ?_) AllReadyH.nil
          refine step_app rfl rfl T_steps rfl ho7 rfl (Sl.new _ _ _) rfl (by simp [Value.oneCell']) (by simp only [maxLen]; omega) (by omega) ?_
          intro A8 c8 w8 ho8 hu8 hat8
          have hb8 := (hMMb.upd hu7 (fun f => f)).alloc (.cells #[.int .i64 (i : Int), .int .i64 (j : Int), .int .i64 y, .slice VB vs.length vd, .slice MB ms.length md] 34) |>.upd hu8 hgt
          have c68 := hb8.cell 6
          have f68 := hb8.frozen 6
          have q8 := sbox8 w7 w8 _ hu7 hu8
          refine hK.out _ _ ?_ (fun hHeld => ?_)
          · exact q8
          clear hK K
          try simp only [put_z]
          refine wpAnyH_take (i := 9) (v := ?_) rfl (by kernel_rfl) (by kernel_rfl) (by kernel_rfl) (fun _ _ _ h => h) (Or.inl ⟨by rfl, ?_⟩) (by assumption) ?_
          rotate_left
          · intro w hSw; (try dsimp only at hSw); go_simp; try with_reducible rfl
          try simp only [put_z]
          refine wpAnyH_take (i := 10) (v := ?_) rfl (by kernel_rfl) (by kernel_rfl) (by kernel_rfl) (fun _ _ _ h => h) (Or.inl ⟨by rfl, ?_⟩) (by assumption) ?_
          rotate_left
          · intro w hSw; (try dsimp only at hSw); go_simp; try with_reducible rfl
          try simp only [put_z]
          refine wpAnyH_ready (rs := [11]) (by kernel_rfl) (by simp) ?_
          refine AllReadyH.cons rfl (fun K hK => ?_) AllReadyH.nil
          go_simp
          refine hK.out _ _ ?_ (fun hHeld => ?_)
          · exact sboxF _ _ q8
          clear hK K
          try simp only [put_z]
          refine wpAnyH_done (by kernel_rfl) ?_ _
          go_wp2_with fail
          go_end0
          refine ⟨rfl, ?_⟩
          rw [← HMd.out] at hoR hm7
          exact merge_fin hU hMM.out Hbw.out Hn.out ef em hmSl HMV.out Hmin.out Hmax.out (by omega) hfr hmbr ho hu hu5 hoR HRn.out hm7 hU56 hu7 hV7 hM7 hvd hmd hto htc htr ho8 hu8 hat8
end Go.Proofs.Ytigambcefdeaoaa
