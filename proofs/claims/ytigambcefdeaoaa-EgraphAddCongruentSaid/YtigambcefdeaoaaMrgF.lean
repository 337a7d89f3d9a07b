/-
  What egraph.mergeSorted does: it merges two lists.
  Merging two classes, in plain Lean: the lists of members and the smallest nodes. No program in sight.
  One rule for what stands behind a taken operation of a drawn region. No condition of its own.
  The graph in memory behind a merge: put together. No condition of its own.
-/
import Derived.Test.YtigambcefdeaoaaGRead
import Derived.Deep.RegionHeld3
import Derived.WalkKit
namespace Go.Proofs.Ytigambcefdeaoaa
open Go.RowKit

def mergeL : List Int → List Int → List Int
  | [], b => b
  | x :: a, [] => x :: a
  | x :: a, y :: b => if x < y then x :: mergeL a (y :: b) else y :: mergeL (x :: a) b
theorem mergeL_nil (a : List Int) : mergeL a [] = a := by cases a <;> simp [mergeL]
theorem mergeL_len : ∀ (a b : List Int), (mergeL a b).length = a.length + b.length
  | [], b => by simp [mergeL]
  | x :: a, [] => by simp [mergeL]
  | x :: a, y :: b => by
    unfold mergeL
    split
    · have := mergeL_len a (y :: b); simp at this ⊢; omega
    · have := mergeL_len (x :: a) b; simp at this ⊢; omega
termination_by a b => a.length + b.length

/-- make([]T, 0, n), T of one cell. -/
theorem run_mk0 {P : Program} {t e : TypeId} {bytes : Nat} (T : SlT P t e 1 bytes) {z : Value} (hz : (P.info? e).bind (·.zero) = some z) (hzc : z.cells = #[z]) (n : Nat) (hb : bytes * n ≤ 281474976710656) (hn : n ≤ 9223372036854775807) (w : World) :
    (Instr.makeSlice t (.int .i64 0) (.int .i64 (n : Int))).run P w = .ok (.slice (some ⟨w.heap.size, 0, none⟩) 0 n) (w.alloc (.cells (Array.replicate n z) e)) := by
  obtain ⟨ht, ⟨i, z', hi, hz', hsz, hby, hzs⟩, _⟩ := T
  have : z' = z := by rw [hi] at hz; simp [hz'] at hz; exact hz
  subst this
  have hb' : (i.bytes : Int) * (n : Int) ≤ 281474976710656 := by
    have h : ((i.bytes * n : Nat) : Int) ≤ 281474976710656 := by rw [hby]; omega
    rwa [Int.natCast_mul] at h
  have hr := run_make (P := P) w t e i z' ht hi hz' .i64 .i64 0 n (by omega) (by omega) hb' (by omega)
  simp only [Int.toNat_natCast, Int.toNat_zero, hsz, Nat.mul_one, hzc] at hr
  rw [hr]
  congr 2
  congr 1
  apply Array.ext
  · simp [size_madeCells]
  · intro j h1 h2
    simp [madeCells, Nat.mod_one]

theorem Ints.tail_ {w : World} {F : Nat → Prop} {b o : Nat} {x : Int} {xs : List Int} (h : Ints w F (some ⟨b, o, none⟩) (x :: xs)) : Ints w F (some ⟨b, o + 1, none⟩) xs := by
  rcases h with h | ⟨b', o', e, hF, hc⟩
  · simp at h
  · injection e with e; injection e with e1 e2; subst e1; subst e2
    refine .inr ⟨b, o + 1, rfl, hF, fun j hj => ?_⟩
    have := hc (j + 1) (by simpa using hj)
    rw [show o + (j + 1) = o + 1 + j by omega] at this
    simpa using this

set_option maxRecDepth 100000 in
set_option maxHeartbeats 2000000 in
theorem mergeSorted_c (w : World) (F : Nat → Prop) (A B : Option Addr) (ca cb : Nat) (xs ys : List Int) (hx : Ints w F A xs) (hy : Ints w F B ys) (hca : xs.length ≤ ca) (hcb : ys.length ≤ cb) (hl : xs.length ≤ 1000000) (hl2 : ys.length ≤ 1000000) :
    Calls Try.prog 67 #[.slice A xs.length ca, .slice B ys.length cb] w fun e w' => ∃ R c, e = .returned (.slice R (mergeL xs ys).length c) ∧ Own w' 3 1 R (mergeL xs ys).length c (icells (mergeL xs ys)) ∧ (∀ k, At R k → w.heap.size ≤ k) ∧ Upd Non w w' := by
  have hx0 := hx.mono (G := (· < w.heap.size)) (fun k hk _ => hk)
  have hy0 := hy.mono (G := (· < w.heap.size)) (fun k hk _ => hk)
  clear hx hy
  have hmk := run_mk0 (P := Try.prog) T_ints' zero_int' rfl (xs.length + ys.length) (by omega) (by omega)
  simp only [Int.natCast_add] at hmk
  obtain ⟨M, HM⟩ := nm (mergeL xs ys)
  rw [HM.out]
  go_enter Try.func67, Try.ntmps67
  go_wp2_with fail
  go_loopg [0, 1, 5] (xs.length + ys.length) (fun g va vb vl wr => ∃ (A' B' R : Option Addr) (ca' cb' c : Nat) (xs' ys' acc : List Int), Hid (g = xs'.length + ys'.length) ∧ Hid (acc ++ mergeL xs' ys' = M) ∧ acc.length + xs'.length + ys'.length ≤ 2000000 ∧ va = .slice A' xs'.length ca' ∧ vb = .slice B' ys'.length cb' ∧ vl = .slice R acc.length c ∧
    Ints wr (· < w.heap.size) A' xs' ∧ Ints wr (· < w.heap.size) B' ys' ∧ xs'.length ≤ ca' ∧ ys'.length ≤ cb' ∧ Own wr 3 1 R acc.length c (icells acc) ∧ Hid (∀ k, At R k → w.heap.size ≤ k) ∧ Upd Non w wr)
  case atStart =>
    refine ⟨A, B, some ⟨w.heap.size, 0, none⟩, ca, cb, xs.length + ys.length, xs, ys, [], rfl, HM, by simp; omega, rfl, rfl, rfl, hx0.upd (Upd.refl.alloc _ (S := Non)) (fun _ _ _ f => f), hy0.upd (Upd.refl.alloc _ (S := Non)) (fun _ _ _ f => f), hca, hcb, ?_, ?_, Upd.refl.alloc _⟩
    · exact Own.mk_ (Blk.new _ _ _) (Nat.zero_le _) (by simp only [maxLen]; omega) (by simp) (by simp [icells])
    · intro k hk; rw [At.some_] at hk; omega
  case round =>
    clear hmk hx0 hy0 hca hcb
    obtain ⟨A', B', R, ca', cb', c, xs', ys', acc, Hg, Hm, hsm, rfl, rfl, rfl, hx, hy, hca, hcb, ho, HR, hu⟩ := hrel
    by_cases hz : xs'.length = 0 ∨ ys'.length = 0
    · have Hm2 : Hid (acc ++ xs' ++ ys' = M) := by
        show _ = _
        rw [← Hm.out]
        rcases hz with h | h
        · obtain rfl := List.eq_nil_of_length_eq_zero h; simp [mergeL]
        · obtain rfl := List.eq_nil_of_length_eq_zero h; simp [mergeL_nil]
      have fin : ∀ A2 c2 w2, Own w2 3 1 A2 (acc.length + xs'.length) c2 (icells acc ++ icells xs') → Upd (At R) wr w2 → (∀ k, At A2 k → At R k ∨ k = wr.heap.size) → Ints w2 (· < w.heap.size) B' ys' ∧ Upd Non w w2 ∧ Hid (∀ k, At A2 k → w.heap.size ≤ k) := fun A2 c2 w2 ho2 hu2 hat2 =>
        ⟨hy.upd hu2 (fun k _ hk h => by have := HR.out k h; omega), hu.trans hu2 (fun i hi h => by have := HR.out i h; omega), fun k hk => by
          rcases hat2 k hk with h | h
          · exact HR.out k h
          · have := hu.size; omega⟩
      have hz' : ¬ 0 < xs'.length ∨ ¬ 0 < ys'.length := by omega
      clear hz
      by_cases h0 : 0 < xs'.length
      all_goals
        go_wp2_with (first | (at_builtin; refine wpList_app rfl rfl T_ints' rfl ho rfl hx (by simp) (icells_one xs') (by simp only [maxLen]; omega) (by omega) ?_; intro A2 c2 w2 ho2 hu2 hat2; obtain ⟨hy2, hw2, HR2⟩ := fin A2 c2 w2 ho2 hu2 hat2) | (at_builtin; refine wpList_app rfl rfl T_ints' rfl ho2 rfl hy2 (by simp) (icells_one ys') (by simp only [maxLen]; omega) (by omega) ?_; intro A3 c3 w3 ho3 hu3 hat3))
        go_ret
        have hlen : acc.length + xs'.length + ys'.length = M.length := by rw [← Hm2.out]; simp; omega
        have hic : icells acc ++ icells xs' ++ icells ys' = icells M := by rw [← Hm2.out]; simp [icells]
        refine ⟨A3, c3, by rw [← hlen]; rfl, by rw [← hlen, ← hic]; exact ho3, fun k hk => ?_, hw2.trans hu3 (fun i hi h => by have := HR2.out i h; omega)⟩
        rcases hat3 k hk with h | h
        · exact HR2.out k h
        · have := hw2.size; omega
    match xs', ys', hz with
    | [], ys', hz => exact absurd (.inl rfl) hz
    | x :: xs', [], hz => exact absurd (.inr rfl) hz
    | x :: xs', y :: ys', hz =>
      clear hz
      obtain ⟨ab, ao, rfl, hab, hab2, cx⟩ := hx.at_ (k := 0) (by simp)
      obtain ⟨bb, bo, rfl, hbb, hbb2, cy⟩ := hy.at_ (k := 0) (by simp)
      rw [Nat.add_zero] at cx cy
      replace cx : wr.cell? ⟨ab, ao, none⟩ = some (.int .i64 x) := cx
      replace cy : wr.cell? ⟨bb, bo, none⟩ = some (.int .i64 y) := cy
      have hxt := hx.tail_
      have hyt := hy.tail_
      have l1 : (x :: xs').length = xs'.length + 1 := rfl
      have l2 : (y :: ys').length = ys'.length + 1 := rfl
      rw [l1] at hca hsm Hg ⊢
      rw [l2] at hcb hsm Hg ⊢
      by_cases hlt : x < y
      · have HM2 : Hid ((acc ++ [x]) ++ mergeL xs' (y :: ys') = M) := by
          show _ = _
          rw [← Hm.out]
          simp [mergeL, hlt]
        have HNB : Hid (¬ At R ab) := fun h => by have := HR.out _ h; omega
        go_wp2_with fail
        go_quiet (fail)
        go_wp2_with fail
        have cx1 : (wr.drewN nq).cell? ⟨ab, ao, none⟩ = some (.int .i64 x) := cx
        have ho1 : Own (wr.drewN nq) 3 1 R acc.length c (icells acc) := ho
        have hx1 : Ints (wr.drewN nq) (· < w.heap.size) (some ⟨ab, ao, none⟩) (x :: xs') := hx
        have hy1 : Ints (wr.drewN nq) (· < w.heap.size) (some ⟨bb, bo, none⟩) (y :: ys') := hy
        have ht1 : Ints (wr.drewN nq) (· < w.heap.size) (some ⟨ab, ao + 1, none⟩) xs' := hxt
        have hu1 : Upd Non w (wr.drewN nq) := hu.drewN nq
        generalize wr.drewN nq = W1 at *
        clear cx cy hx hy hxt hyt
        have i1 : (1 : Int) ≤ (xs'.length : Int) + 1 := by omega
        have i2 : (xs'.length : Int) + 1 ≤ (ca' : Int) := by omega
        have i3 : (1 : Int) ≤ (ca' : Int) := by omega
        have i4 : 1 ≤ xs'.length + 1 := by omega
        have i5 : 1 ≤ ca' := by omega
        by_cases hc1 : ca' = 1
        all_goals
          go_region_held3 (fun w' => w'.cell? ⟨ab, ao, none⟩ = some (.int .i64 x))
            (first | exact cell_upd cx1 (Upd.refl (S := Non)).drew (fun f => f) | exact cell_upd cx1 ((Upd.refl (S := Non)).drew.alloc _) (fun f => f) | exact k0 | go_keep)
            (first
              | (refine step_app rfl rfl T_ints' rfl ((show Own W1.drew _ _ _ _ _ _ from ho1).alloc _) rfl (Sl.new _ _ _) rfl (by simp [Value.oneCell']) (by simp only [maxLen]; omega) (by omega) ?_; intro A4 c4 w5 ho4 hu5 hat4; have k0 := cell_upd (cell_upd cx1 ((Upd.refl (S := Non)).drew.alloc _) (fun f => f)) hu5 (HNB.out)))
          go_wp2_with fail
          have hX := (hx1.upd ((Upd.refl (S := Non)).drew.alloc (.cells #[.int .i64 x] 3)) (fun _ _ _ f => f)).upd hu5 (fun k _ hk h => by have := HR.out k h; omega)
          have hY := (hy1.upd ((Upd.refl (S := Non)).drew.alloc (.cells #[.int .i64 x] 3)) (fun _ _ _ f => f)).upd hu5 (fun k _ hk h => by have := HR.out k h; omega)
          have hT := (ht1.upd ((Upd.refl (S := Non)).drew.alloc (.cells #[.int .i64 x] 3)) (fun _ _ _ f => f)).upd hu5 (fun k _ hk h => by have := HR.out k h; omega)
          have hU := (hu1.drew.alloc (.cells #[.int .i64 x] 3)).trans hu5 (fun i hi h => by have := HR.out i h; omega)
          have HR2 : Hid (∀ k, At A4 k → w.heap.size ≤ k) := fun k hk => by
            rcases hat4 k hk with h | h
            · exact HR.out k h
            · have := hu1.size; simp at h; omega
          have ho5 : Own w5 3 1 A4 (acc ++ [x]).length c4 (icells (acc ++ [x])) := by rw [icells_snoc, List.length_append]; exact ho4
          go_roundg (xs'.length + (ys'.length + 1))
          case measure => rw [Hg.out]; omega
          case rel =>
            first
            | exact ⟨_, _, A4, _, cb', c4, xs', y :: ys', acc ++ [x], rfl, HM2, by simp; omega, rfl, rfl, by simp, .inl (by simp; exact List.eq_nil_of_length_eq_zero (by omega)), hY, by omega, hcb, ho5, HR2, hU⟩
            | exact ⟨_, _, A4, _, cb', c4, xs', y :: ys', acc ++ [x], rfl, HM2, by simp; omega, rfl, rfl, by simp, hT, hY, by omega, hcb, ho5, HR2, hU⟩
      · have HM2 : Hid ((acc ++ [y]) ++ mergeL (x :: xs') ys' = M) := by
          show _ = _
          rw [← Hm.out]
          simp [mergeL, hlt]
        have HNB : Hid (¬ At R bb) := fun h => by have := HR.out _ h; omega
        go_wp2_with fail
        go_quiet (fail)
        go_wp2_with fail
        have cx1 : (wr.drewN nq).cell? ⟨bb, bo, none⟩ = some (.int .i64 y) := cy
        have ho1 : Own (wr.drewN nq) 3 1 R acc.length c (icells acc) := ho
        have hx1 : Ints (wr.drewN nq) (· < w.heap.size) (some ⟨ab, ao, none⟩) (x :: xs') := hx
        have hy1 : Ints (wr.drewN nq) (· < w.heap.size) (some ⟨bb, bo, none⟩) (y :: ys') := hy
        have ht1 : Ints (wr.drewN nq) (· < w.heap.size) (some ⟨bb, bo + 1, none⟩) ys' := hyt
        have hu1 : Upd Non w (wr.drewN nq) := hu.drewN nq
        generalize wr.drewN nq = W1 at *
        clear cx cy hx hy hxt hyt
        have i1 : (1 : Int) ≤ (ys'.length : Int) + 1 := by omega
        have i2 : (ys'.length : Int) + 1 ≤ (cb' : Int) := by omega
        have i3 : (1 : Int) ≤ (cb' : Int) := by omega
        have i4 : 1 ≤ ys'.length + 1 := by omega
        have i5 : 1 ≤ cb' := by omega
        by_cases hc1 : cb' = 1
        all_goals
          go_region_held3 (fun w' => w'.cell? ⟨bb, bo, none⟩ = some (.int .i64 y))
            (first | exact cell_upd cx1 (Upd.refl (S := Non)).drew (fun f => f) | exact cell_upd cx1 ((Upd.refl (S := Non)).drew.alloc _) (fun f => f) | exact k0 | go_keep)
            (first
              | (refine step_app rfl rfl T_ints' rfl ((show Own W1.drew _ _ _ _ _ _ from ho1).alloc _) rfl (Sl.new _ _ _) rfl (by simp [Value.oneCell']) (by simp only [maxLen]; omega) (by omega) ?_; intro A4 c4 w5 ho4 hu5 hat4; have k0 := cell_upd (cell_upd cx1 ((Upd.refl (S := Non)).drew.alloc _) (fun f => f)) hu5 (HNB.out)))
          go_wp2_with fail
          have hX := (hx1.upd ((Upd.refl (S := Non)).drew.alloc (.cells #[.int .i64 y] 3)) (fun _ _ _ f => f)).upd hu5 (fun k _ hk h => by have := HR.out k h; omega)
          have hY := (hy1.upd ((Upd.refl (S := Non)).drew.alloc (.cells #[.int .i64 y] 3)) (fun _ _ _ f => f)).upd hu5 (fun k _ hk h => by have := HR.out k h; omega)
          have hT := (ht1.upd ((Upd.refl (S := Non)).drew.alloc (.cells #[.int .i64 y] 3)) (fun _ _ _ f => f)).upd hu5 (fun k _ hk h => by have := HR.out k h; omega)
          have hU := (hu1.drew.alloc (.cells #[.int .i64 y] 3)).trans hu5 (fun i hi h => by have := HR.out i h; omega)
          have HR2 : Hid (∀ k, At A4 k → w.heap.size ≤ k) := fun k hk => by
            rcases hat4 k hk with h | h
            · exact HR.out k h
            · have := hu1.size; simp at h; omega
          have ho5 : Own w5 3 1 A4 (acc ++ [y]).length c4 (icells (acc ++ [y])) := by rw [icells_snoc, List.length_append]; exact ho4
          go_roundg (xs'.length + 1 + ys'.length)
          case measure => rw [Hg.out]; omega
          case rel =>
            first
            | exact ⟨_, _, A4, ca', _, c4, x :: xs', ys', acc ++ [y], rfl, HM2, by simp; omega, rfl, rfl, by simp, hX, .inl (by simp; exact List.eq_nil_of_length_eq_zero (by omega)), hca, by omega, ho5, HR2, hU⟩
            | exact ⟨_, _, A4, ca', _, c4, x :: xs', ys', acc ++ [y], rfl, HM2, by simp; omega, rfl, rfl, by simp, hX, hT, hca, by omega, ho5, HR2, hU⟩
end Go.Proofs.Ytigambcefdeaoaa

namespace Go.Proofs.Ytigambcefdeaoaa

theorem mergeL_filter (p q : Nat → Bool) : ∀ (l : List Nat), l.Pairwise (· < ·) → (∀ x ∈ l, ¬ (p x = true ∧ q x = true)) →
    mergeL ((l.filter p).map fun (k : Nat) => (k : Int)) ((l.filter q).map fun (k : Nat) => (k : Int)) = (l.filter fun x => p x || q x).map fun (k : Nat) => (k : Int)
  | [], _, _ => by simp [mergeL]
  | x :: l, hs, hd => by
    have hs' := List.pairwise_cons.1 hs
    have ih := mergeL_filter p q l hs'.2 (fun y hy => hd y (by simp [hy]))
    have hx := hd x (by simp)
    cases hp : p x with
    | true =>
      have hq : q x = false := by cases h : q x; rfl; exact absurd ⟨hp, h⟩ hx
      simp only [List.filter_cons, hp, hq, if_true, Bool.true_or, Bool.false_eq_true, if_false, List.map_cons]
      rw [← ih]
      cases e : l.filter q with
      | nil => simp [mergeL_nil]
      | cons y t =>
        have hy : x < y := hs'.1 y ((List.mem_filter.1 (show y ∈ l.filter q by rw [e]; simp)).1)
        simp only [List.map_cons, mergeL]
        rw [if_pos (by omega)]
    | false =>
      cases hq : q x with
      | false => simpa [List.filter_cons, hp, hq] using ih
      | true =>
        simp only [List.filter_cons, hp, hq, if_true, Bool.false_or, Bool.false_eq_true, if_false, List.map_cons]
        rw [← ih]
        cases e : l.filter p with
        | nil => simp [mergeL]
        | cons y t =>
          have hy : x < y := hs'.1 y ((List.mem_filter.1 (show y ∈ l.filter p by rw [e]; simp)).1)
          simp only [List.map_cons, mergeL]
          rw [if_neg (by omega)]

theorem range_sorted (n : Nat) : (List.range n).Pairwise (· < ·) := List.pairwise_lt_range

section
variable {n : Nat} {c : Nat → Nat} {i j lo hi : Nat}
theorem memL_lo (hlo : min (c i) (c j) = lo) (hhi : max (c i) (c j) = hi) (hne : lo ≠ hi) : memL n (joinc c i j) lo = mergeL (memL n c lo) (memL n c hi) := by
  unfold memL
  rw [mergeL_filter _ _ _ (range_sorted n) (fun x _ h => by simp at h; omega)]
  congr 1
  apply List.filter_congr
  intro x _
  unfold joinc
  rw [hlo, hhi, Bool.eq_iff_iff]
  simp only [beq_iff_eq, Bool.or_eq_true]
  split <;> omega
theorem memL_hi (hlo : min (c i) (c j) = lo) (hhi : max (c i) (c j) = hi) (hne : lo ≠ hi) : memL n (joinc c i j) hi = [] := by
  unfold memL
  have : (List.range n).filter (fun k => joinc c i j k == hi) = [] := by
    rw [List.filter_eq_nil_iff]
    intro x _
    unfold joinc
    rw [hlo, hhi]
    simp only [beq_iff_eq]
    split <;> omega
  rw [this]; rfl
theorem memL_else (hlo : min (c i) (c j) = lo) (hhi : max (c i) (c j) = hi) {k : Nat} (h1 : k ≠ lo) (h2 : k ≠ hi) : memL n (joinc c i j) k = memL n c k := by
  unfold memL
  congr 1
  apply List.filter_congr
  intro x _
  unfold joinc
  rw [hlo, hhi, Bool.eq_iff_iff]
  simp only [beq_iff_eq]
  split <;> omega

/-- The smallest nodes after t members of the class hi have been turned. -/
def turned (n : Nat) (c : Nat → Nat) (lo hi t : Nat) : List Int := ((memL n c hi).take t).foldl (fun l x => l.set x.toNat (lo : Int)) ((List.range n).map fun k => (c k : Int))
theorem turned_zero : turned n c lo hi 0 = (List.range n).map fun k => (c k : Int) := rfl
theorem turned_len (t : Nat) : (turned n c lo hi t).length = n := by
  unfold turned
  have : ∀ (xs : List Int) (l : List Int), (xs.foldl (fun l x => l.set x.toNat (lo : Int)) l).length = l.length := by
    intro xs; induction xs with
    | nil => intro l; rfl
    | cons x xs ih => intro l; rw [List.foldl_cons, ih]; simp
  rw [this]; simp
theorem turned_succ {t : Nat} (h : t < (memL n c hi).length) : turned n c lo hi (t + 1) = (turned n c lo hi t).set ((memL n c hi)[t]).toNat (lo : Int) := by
  unfold turned
  rw [List.take_succ_eq_append_getElem h, List.foldl_append]
  rfl
theorem foldl_set_get (lo : Int) : ∀ (xs : List Int) (l : List Int) (k : Nat) (hk : k < (xs.foldl (fun l x => l.set x.toNat lo) l).length) (hk' : k < l.length), (∀ x ∈ xs, 0 ≤ x) →
    (xs.foldl (fun l x => l.set x.toNat lo) l)[k] = if (k : Int) ∈ xs then lo else l[k]
  | [], l, k, _, _, _ => by simp
  | x :: xs, l, k, hk, hk', h0 => by
    have ih := foldl_set_get lo xs (l.set x.toNat lo) k hk (by simpa using hk') (fun y hy => h0 y (by simp [hy]))
    refine Eq.trans ih ?_
    rw [List.getElem_set]
    have hx := h0 x (by simp)
    by_cases e : (k : Int) ∈ xs
    · simp [e]
    · by_cases e2 : x.toNat = k
      · have : (k : Int) = x := by omega
        rw [if_neg e, if_pos e2, if_pos (by simp [this])]
      · have : ¬ (k : Int) = x := by omega
        simp [e, e2, this]
theorem mem_memL {k : Int} : k ∈ memL n c hi ↔ ∃ q : Nat, q < n ∧ c q = hi ∧ (q : Int) = k := by
  unfold memL
  simp [List.mem_map, List.mem_filter, and_assoc]
theorem memL_get {t : Nat} (h : t < (memL n c hi).length) : ∃ q : Nat, (memL n c hi)[t] = (q : Int) ∧ q < n ∧ c q = hi := by
  obtain ⟨q, h1, h2, h3⟩ := mem_memL.1 (List.getElem_mem h)
  exact ⟨q, h3.symm, h1, h2⟩
theorem memL_length_le : (memL n c hi).length ≤ n := by
  unfold memL
  rw [List.length_map]
  exact Nat.le_trans (List.length_filter_le _ _) (by simp)
theorem turned_all (hlo : min (c i) (c j) = lo) (hhi : max (c i) (c j) = hi) : turned n c lo hi (memL n c hi).length = (List.range n).map fun k => (joinc c i j k : Int) := by
  apply List.ext_getElem
  · rw [turned_len]; simp
  · intro k hk hk'
    unfold turned at hk ⊢
    have hkn : k < n := by simpa using hk'
    have h0 : ∀ x ∈ List.take (memL n c hi).length (memL n c hi), 0 ≤ x := fun x hx => by
      obtain ⟨q, _, _, h⟩ := mem_memL.1 (List.mem_of_mem_take hx)
      omega
    rw [foldl_set_get _ _ _ k hk (by simpa using hkn) h0, List.take_length]
    simp only [List.getElem_map, List.getElem_range]
    unfold joinc
    rw [hlo, hhi]
    by_cases e : c k = hi
    · rw [if_pos (mem_memL.2 ⟨k, hkn, e, rfl⟩), if_pos e]
    · rw [if_neg, if_neg e]
      intro h
      obtain ⟨q, _, h2, h3⟩ := mem_memL.1 h
      have : q = k := by omega
      subst this
      exact e h2
end
end Go.Proofs.Ytigambcefdeaoaa

namespace Go.Proofs.Ytigambcefdeaoaa

theorem put_z : (∀ (a : Act) (d : Tmp) (v : Value), a.put (some d) v = { a with tmps := a.tmps.setIfInBounds d v }) ∧ (∀ (a : Act) (v : Value), a.put none v = a) ∧
    (∀ (l : List Value) (i : Nat) (v : Value), l.toArray.setIfInBounds i v = (l.set i v).toArray) ∧ (∀ (x v : Value) (l : List Value), (x :: l).set 0 v = v :: l) ∧ (∀ (x v : Value) (l : List Value) (n : Nat), (x :: l).set (n + 1) v = x :: l.set n v) :=
  ⟨fun _ _ _ => rfl, fun _ _ => rfl, fun _ _ _ => by simp, fun _ _ _ => rfl, fun _ _ _ _ => rfl⟩
end Go.Proofs.Ytigambcefdeaoaa

namespace Go.Proofs.Ytigambcefdeaoaa
open Go.RowKit

/-- Only blocks of the graph have turned. -/
def Mine (ρ : Nat → Role) : Nat → Prop := fun k => ρ k ≠ .no
/-- Roles for new blocks, by ranges. -/
def paint3 (ρ : Nat → Role) (n0 n1 n2 n3 : Nat) (r1 r2 r3 : Role) : Nat → Role := fun k => if k < n0 then ρ k else if k < n1 then r1 else if k < n2 then r2 else if k < n3 then r3 else .no
theorem paint3_old {ρ : Nat → Role} {n0 n1 n2 n3 : Nat} {r1 r2 r3 : Role} {k : Nat} (h : k < n0) : paint3 ρ n0 n1 n2 n3 r1 r2 r3 k = ρ k := by unfold paint3; rw [if_pos h]
theorem paint3_one {ρ : Nat → Role} {n0 n1 n2 n3 : Nat} {r1 r2 r3 : Role} {k : Nat} (h : n0 ≤ k) (h1 : k < n1) : paint3 ρ n0 n1 n2 n3 r1 r2 r3 k = r1 := by unfold paint3; rw [if_neg (by omega), if_pos h1]
theorem paint3_two {ρ : Nat → Role} {n0 n1 n2 n3 : Nat} {r1 r2 r3 : Role} {k : Nat} (h : n0 ≤ k) (h1 : n1 ≤ k) (h2 : k < n2) : paint3 ρ n0 n1 n2 n3 r1 r2 r3 k = r2 := by unfold paint3; rw [if_neg (by omega), if_neg (by omega), if_pos h2]
theorem paint3_three {ρ : Nat → Role} {n0 n1 n2 n3 : Nat} {r1 r2 r3 : Role} {k : Nat} (h : n0 ≤ k) (h1 : n1 ≤ k) (h2 : n2 ≤ k) (h3 : k < n3) : paint3 ρ n0 n1 n2 n3 r1 r2 r3 k = r3 := by unfold paint3; rw [if_neg (by omega), if_neg (by omega), if_neg (by omega), if_pos h3]
theorem paint3_lt {ρ : Nat → Role} {n0 n1 n2 n3 : Nat} {r1 r2 r3 : Role} {k : Nat} (hn : n0 ≤ n1 ∧ n1 ≤ n2 ∧ n2 ≤ n3) (hb : ∀ k, ρ k ≠ .no → k < n3) (h : paint3 ρ n0 n1 n2 n3 r1 r2 r3 k ≠ .no) : k < n3 := by
  unfold paint3 at h
  split at h
  · exact hb k h
  · split at h
    · omega
    · split at h
      · omega
      · split at h
        · omega
        · exact absurd rfl h

theorem scells_set {n : Nat} {c : Nat → Nat} {i j lo hi : Nat} {mS : List (Option Addr × Nat)} {R : Option Addr} {rc : Nat} (hl : mS.length = n) (hlo : min (c i) (c j) = lo) (hhi : max (c i) (c j) = hi) (hne : lo ≠ hi) :
    ((scells n c mS).set lo (.slice R (memL n (joinc c i j) lo).length rc)).set hi (.slice none 0 0) = scells n (joinc c i j) ((mS.set lo (R, rc)).set hi (none, 0)) := by
  apply List.ext_getElem
  · simp [scells]
  · intro k hk hk'
    have hkn : k < n := by simpa [scells] using hk'
    simp only [scells, List.getElem_set, List.getElem_map, List.getElem_range]
    by_cases e1 : hi = k
    · subst e1
      rw [if_pos rfl, memL_hi hlo hhi hne]
      simp [hl, hkn]
    · rw [if_neg e1]
      by_cases e2 : lo = k
      · subst e2
        rw [if_pos rfl]
        simp [hl, hkn, e1]
      · rw [if_neg e2, memL_else hlo hhi (fun h => e2 h.symm) (fun h => e1 h.symm)]
        simp [e1, e2]

theorem merge_fin {w W wr w5 w6 w7 w8 : World} {ρ : Nat → Role} {gb : Nat} {a : GA} {G : EG} {i j : Nat} {y : Int} {vs ms : List Int} {fb mb lo hi n : Nat} {mS : List (Option Addr × Nat)} {tcs : List Value} {R VB MB A8 : Option Addr} {rc vd md c8 : Nat}
    (hU : Upd Non w W) (hM : GM W ρ gb a G) (hbw : ∀ k, ρ k ≠ .no → k < w.heap.size) (hn : G.L.length = n) (ef : a.f = some ⟨fb, 0, none⟩) (em : a.m = some ⟨mb, 0, none⟩) (hmSl : mS.length = n)
    (hmv : ∀ i, i < n → Ints W (fun k => ρ k = .ins) (mS.getD i (none, 0)).1 (memL n G.c i) ∧ (memL n G.c i).length ≤ (mS.getD i (none, 0)).2)
    (hlo : min (G.c i) (G.c j) = lo) (hhi : max (G.c i) (G.c j) = hi) (hne : lo ≠ hi) (hfr : ρ fb = .find) (hmr : ρ mb = .mem)
    (ho : Own wr 3 1 (some ⟨fb, 0, none⟩) n a.fc (icells ((List.range n).map fun k => (joinc G.c i j k : Int)))) (hu : Upd (· = fb) W wr) (hu5 : Upd Non wr w5)
    (hoR : Own w5 3 1 R (memL n (joinc G.c i j) lo).length rc (icells (memL n (joinc G.c i j) lo))) (hRn : ∀ k, At R k → W.heap.size ≤ k)
    (hm7 : Own w6 22 1 (some ⟨mb, 0, none⟩) n a.mc (((scells n G.c mS).set lo (.slice R (memL n (joinc G.c i j) lo).length rc)).set hi (.slice none 0 0))) (hU56 : Upd (· = mb) w5 w6)
    (hu7 : Upd Non w6 w7) (hv : Ints w7 (w6.heap.size ≤ ·) VB vs) (hm : Ints w7 (w6.heap.size ≤ ·) MB ms) (hvd : vs.length ≤ vd) (hmd : ms.length ≤ md)
    (hto : Own W 34 5 a.t G.T.length a.tc tcs) (htc : StepCells W (fun k => ρ k = .vars) tcs G.T) (htr : ∀ k, At a.t k → ρ k = .steps)
    (ho8 : Own w8 34 5 A8 (G.T.length + 1) c8 (tcs ++ [.int .i64 (i : Int), .int .i64 (j : Int), .int .i64 y, .slice VB vs.length vd, .slice MB ms.length md])) {o : Obj} (hu8 : Upd (At a.t) (w7.alloc o) w8) (hat8 : ∀ k, At A8 k → At a.t k ∨ k = (w7.alloc o).heap.size) :
    ∃ ρ' a', GM (w8.setCell ⟨gb, 6, none⟩ (.slice A8 (G.T.length + 1) c8)) ρ' gb a' (G.merge ⟨i, j, y, vs, ms⟩) ∧ Upd (Mine ρ) w (w8.setCell ⟨gb, 6, none⟩ (.slice A8 (G.T.length + 1) c8)) ∧ ∀ k, k < w.heap.size → ρ' k = ρ k := by
  have hgr := hM.me
  have hgw := hbw gb (by rw [hgr]; simp)
  have hfw := hbw fb (by rw [hfr]; simp)
  have hmw := hbw mb (by rw [hmr]; simp)
  have s1 := hU.size
  have s2 := hu.size
  have s3 := hu5.size
  have s4 := hU56.size
  have s5 := hu7.size
  have s6 := hu8.size
  have s6' : w7.heap.size < w8.heap.size := by simp at s6; omega
  obtain ⟨wF, HF⟩ := nm (w8.setCell ⟨gb, 6, none⟩ (.slice A8 (G.T.length + 1) c8))
  have u8F : Upd (· = gb) w8 wF := by rw [← HF.out]; exact updCell _ _ _ _
  have s7 : w8.heap.size ≤ wF.heap.size := u8F.size
  have s8 : wF.heap.size = w8.heap.size := by rw [← HF.out]; simp [World.setCell]
  have u6F : Upd (fun k => At a.t k ∨ k = gb) w6 wF := ((((hu7.alloc o).mono (T := At a.t) (fun _ _ f => f.elim)).trans hu8 (fun _ _ h => h)).mono (T := fun k => At a.t k ∨ k = gb) (fun _ _ h => .inl h)).trans u8F (fun _ _ h => .inr h)
  have u5F : Upd (fun k => k = mb ∨ At a.t k ∨ k = gb) w5 wF := (hU56.mono (T := fun k => k = mb ∨ At a.t k ∨ k = gb) (fun _ _ h => .inl h)).trans u6F (fun _ _ h => .inr h)
  have urF : Upd (fun k => k = mb ∨ At a.t k ∨ k = gb) wr wF := (hu5.mono (T := fun k => k = mb ∨ At a.t k ∨ k = gb) (fun _ _ f => f.elim)).trans u5F (fun _ _ h => h)
  have uWF : Upd (fun k => k = fb ∨ k = mb ∨ At a.t k ∨ k = gb) W wF := (hu.mono (T := fun k => k = fb ∨ k = mb ∨ At a.t k ∨ k = gb) (fun _ _ h => .inl h)).trans urF (fun _ _ h => .inr h)
  have hd : ∀ k, (k = fb ∨ k = mb ∨ At a.t k ∨ k = gb) → ρ k = .find ∨ ρ k = .mem ∨ ρ k = .steps ∨ ρ k = .me := by
    rintro k (rfl | rfl | h | rfl)
    · exact .inl hfr
    · exact .inr (.inl hmr)
    · exact .inr (.inr (.inl (htr k h)))
    · exact .inr (.inr (.inr hgr))
  have eW : ∀ k, k < W.heap.size → paint3 ρ W.heap.size w6.heap.size w7.heap.size wF.heap.size .ins .vars .steps k = ρ k := fun k hk => paint3_old hk
  have hgt : ¬ At a.t gb := fun h => by have := htr gb h; rw [hgr] at this; cases this
  have hgm : gb ≠ mb := fun e => by rw [e, hmr] at hgr; cases hgr
  have hgf : gb ≠ fb := fun e => by rw [e, hfr] at hgr; cases hgr
  have hfm : fb ≠ mb := fun e => by rw [e, hmr] at hfr; cases hfr
  rw [HF.out]
  refine ⟨paint3 ρ W.heap.size w6.heap.size w7.heap.size wF.heap.size .ins .vars .steps, { a with t := A8, tc := c8 }, ⟨?_, ?_, ?_, ?_, ?_, ?_, ?_, ?_, ?_, ?_⟩, ?_, ?_⟩
  · exact fun k hk => paint3_lt ⟨by omega, by omega, by omega⟩ (fun k hk => by have := hbw k hk; omega) hk
  · rw [eW gb (by omega)]; exact hgr
  · have b1 := ((((hM.blk.upd hu (fun e => hgf e)).upd hu5 (fun f => f)).upd hU56 (fun e => hgm e)).upd hu7 (fun f => f)).alloc o |>.upd hu8 hgt
    have b2 := b1.set_ 6 (.slice A8 (G.T.length + 1) c8)
    rw [HF.out] at b2
    have : ((G.merge ⟨i, j, y, vs, ms⟩).T.length) = G.T.length + 1 := by simp [EG.merge]
    rw [this]
    exact b2
  · exact hM.l.upd uWF (fun k _ hS => by rcases hd k hS with h | h | h | h <;> rw [h] <;> simp) eW
  · exact hM.s.upd uWF (fun k _ hS => by rcases hd k hS with h | h | h | h <;> rw [h] <;> simp) eW
  · have o1 := ho.upd urF (fun k hk h => by
      rw [At.some_] at hk
      subst hk
      rcases h with h | h | h
      · exact hfm h
      · have := htr _ h; rw [hfr] at this; cases this
      · exact hgf h.symm)
    refine ⟨?_, ?_⟩
    · show Own wF 3 1 a.f (clL G.L (joinc G.c i j)).length a.fc (icells (clL G.L (joinc G.c i j)))
      rw [clL_len, ef]
      unfold clL
      rw [hn]
      exact o1
    · intro k hk
      have hk' : At a.f k := hk
      rw [ef, At.some_] at hk'
      subst hk'
      rw [eW _ (by omega)]
      exact hfr
  · have o1 := hm7.upd u6F (fun k hk h => by
      rw [At.some_] at hk
      subst hk
      rcases h with h | h
      · have := htr _ h; rw [hmr] at this; cases this
      · exact hgm h.symm)
    rw [scells_set hmSl hlo hhi hne] at o1
    have hl2 : (G.merge ⟨i, j, y, vs, ms⟩).L.length = n := hn
    have hc2 : (G.merge ⟨i, j, y, vs, ms⟩).c = joinc G.c i j := by simp [EG.merge]
    show GMm wF _ a.m a.mc _ _
    rw [hl2, hc2]
    refine ⟨(mS.set lo (R, rc)).set hi (none, 0), by simp [hmSl], by rw [em]; exact o1, fun k hk => ?_, fun k hk => ?_⟩
    · rw [em, At.some_] at hk
      subst hk
      rw [eW _ (by omega)]
      exact hmr
    · by_cases e1 : k = hi
      · subst e1
        rw [memL_hi hlo hhi hne]
        exact ⟨.inl rfl, by simp⟩
      · by_cases e2 : k = lo
        · subst e2
          have hg : ((mS.set k (R, rc)).set hi (none, 0)).getD k (none, 0) = (R, rc) := by
            simp [List.getD, hmSl, hk, Ne.symm e1]
          rw [hg]
          have oR := hoR.upd u5F (fun q hq h => by
            have := hRn q hq
            rcases h with h | h | h
            · omega
            · have := hto.lt h; omega
            · omega)
          refine ⟨oR.ints.mono (fun q hq hA => paint3_one (hRn q hA) ?_), hoR.le⟩
          have := hoR.lt hA
          omega
        · have hg : ((mS.set lo (R, rc)).set hi (none, 0)).getD k (none, 0) = mS.getD k (none, 0) := by
            simp [List.getD, Ne.symm e1, Ne.symm e2]
          rw [hg, memL_else hlo hhi e2 e1]
          exact ⟨(hmv k hk).1.upd' uWF (fun k _ hS => by rcases hd k hS with h | h | h | h <;> rw [h] <;> simp) eW, (hmv k hk).2⟩
  · exact hM.o.upd uWF (fun k _ hS => by rcases hd k hS with h | h | h | h <;> rw [h] <;> simp) eW
  · exact hM.x.upd uWF (fun k _ hS => by rcases hd k hS with h | h | h | h <;> rw [h] <;> simp) eW
  · have hat : ∀ k, At A8 k → paint3 ρ W.heap.size w6.heap.size w7.heap.size wF.heap.size .ins .vars .steps k = .steps := fun k hk => by
      have hlt := ho8.lt hk
      rcases hat8 k hk with h | h
      · have := hto.lt h
        rw [eW k this]; exact htr k h
      · simp at h
        exact paint3_three (by omega) (by omega) (by omega) (by omega)
    have hTl : (G.merge ⟨i, j, y, vs, ms⟩).T = G.T ++ [⟨i, j, y, vs, ms⟩] := rfl
    rw [hTl]
    have hlen : (G.T ++ [(⟨i, j, y, vs, ms⟩ : Stp)]).length = G.T.length + 1 := by simp
    have u7F : Upd (fun k => At a.t k ∨ k = gb) w7 wF := (((Upd.refl.alloc o (S := At a.t)).trans hu8 (fun _ _ h => h)).mono (T := fun k => At a.t k ∨ k = gb) (fun _ _ h => .inl h)).trans u8F (fun _ _ h => .inr h)
    have oT := ho8.upd u8F (fun k hk e => by
      rcases hat8 k hk with h | h
      · rw [e] at h; exact hgt h
      · simp at h; omega)
    refine ⟨tcs ++ stpCells ⟨i, j, y, vs, ms⟩ VB MB vd md, by rw [hlen]; exact oT, ?_, hat⟩
    · have t1 : StepCells wF (fun k => paint3 ρ W.heap.size w6.heap.size w7.heap.size wF.heap.size .ins .vars .steps k = .vars) tcs G.T :=
        htc.mono uWF (fun k _ hr hS => by rcases hd k hS with h | h | h | h <;> rw [hr] at h <;> cases h) (fun k hk hr => by rw [eW k hk]; exact hr)
      have mv : ∀ {A : Option Addr} {xs : List Int}, Ints w7 (w6.heap.size ≤ ·) A xs → Ints wF (fun k => paint3 ρ W.heap.size w6.heap.size w7.heap.size wF.heap.size .ins .vars .steps k = .vars) A xs := fun h =>
        ((h.mono (G := fun k => w6.heap.size ≤ k ∧ k < w7.heap.size) (fun k hk h => ⟨h, hk⟩)).upd u7F (fun k hk hr hS => by
          rcases hS with h | h
          · have := hto.lt h; omega
          · omega)).mono (fun k _ h => paint3_two (by omega) h.1 h.2)
      exact t1.snoc (s := ⟨i, j, y, vs, ms⟩) (mv hv) (mv hm) hvd hmd
  · refine (hU.mono (T := Mine ρ) (fun _ _ f => f.elim)).trans uWF (fun k _ hS => ?_)
    rcases hd k hS with h | h | h | h <;> (show ρ k ≠ .no) <;> rw [h] <;> simp
  · exact fun k hk => eW k (by omega)
end Go.Proofs.Ytigambcefdeaoaa
