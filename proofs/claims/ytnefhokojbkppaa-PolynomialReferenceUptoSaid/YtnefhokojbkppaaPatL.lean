/-
  What Pattern and op of chapter 18 do.
-/
import Derived.Test.YtnefhokojbkppaaPatC
namespace Go.Proofs.Ytnefhokojbkppaa
open Go.RowKit

set_option maxRecDepth 100000 in
set_option maxHeartbeats 4000000 in
theorem pattern_c (w : World) (F : Nat → Prop) (A : Option Addr) (c : Nat) (xs : List Int) (n : Nat) (h1 : 1 ≤ n) (h2 : n ≤ 1000) (hx : Ints w F A xs) (hc : xs.length ≤ c) (hI : ∀ x ∈ xs, I64 x) (hn : xs.length ≤ 100000000000000) :
    Calls Try.prog 12 #[.slice A xs.length c, .int .i64 n] w fun e w' => ∃ (q : Pt) (KA : Option Addr) (kc : Nat), e = .returned (pv q KA kc) ∧ PolyPt n q ∧ q.size ≤ 62 ∧ PtK w' (fun k => w.heap.size ≤ k) q KA kc ∧ Upd Non w w' := by
  have hx0 := hx.mono (G := (· < w.heap.size)) (fun k hk _ => hk)
  obtain ⟨W, HW⟩ := nm (w.alloc (.cells #[.int .i64 0, .int .i64 0, .int .i64 0, .int .i64 0, .slice none 0 0] 24))
  have hU : Upd Non w W := by rw [← HW.out]; exact Upd.refl.alloc _
  have hb : Blk W w.heap.size 24 #[.int .i64 0, .int .i64 0, .int .i64 0, .int .i64 0, .slice none 0 0] := by rw [← HW.out]; exact Blk.new _ _ _
  have hsW : W.heap.size = w.heap.size + 1 := by rw [← HW.out]; simp
  have e0 := HW.out
  obtain ⟨W2, HW2⟩ := nm (W.alloc (.cells #[] 3))
  have hU2 : Upd Non w W2 := by rw [← HW2.out]; exact hU.alloc _
  have hU12 : Upd Non W W2 := by rw [← HW2.out]; exact Upd.refl.alloc _
  have hb2 := hb.upd hU12 (fun f => f)
  have ho2 : Own W2 3 1 (some ⟨w.heap.size + 1, 0, none⟩) 0 0 (icells []) := by rw [← HW2.out]; exact own_empty' 3 1 hsW.symm
  have e2 := HW2.out
  have hx2 := hx0.upd hU2 (fun _ _ _ f => f)
  obtain ⟨m, hm⟩ : ∃ m : Nat, (xs.take 20).length = m := ⟨_, rfl⟩
  have hmx : Ints W2 (· < w.heap.size) A (xs.take 20) := hx2.take_ 20
  have hml : m ≤ 20 := by rw [← hm]; simp; omega
  have H : ∀ (A3 : Option Addr) (c3 : Nat) (w3 : World), Own w3 3 1 A3 (0 + m) c3 (icells [] ++ icells (xs.take 20)) → Upd (At (some ⟨w.heap.size + 1, 0, none⟩)) W2 w3 → (∀ k, At A3 k → At (some ⟨w.heap.size + 1, 0, none⟩) k ∨ k = W2.heap.size) →
      ∃ W4, w3.alloc (.cells #[.slice A3 m c3, .int .i64 0] 54) = W4 ∧ Upd Non w W4 ∧ Blk W4 w.heap.size 24 #[.int .i64 0, .int .i64 0, .int .i64 0, .int .i64 0, .slice none 0 0] ∧ w.heap.size < w3.heap.size ∧
      Rd W4 (fun k => w.heap.size < k ∧ k ≠ w3.heap.size) w3.heap.size (xs.take 20) := by
    intro A3 c3 w3 ho3 hu3 hat3
    have hs3 := hu3.size
    have hsW2 : W2.heap.size = w.heap.size + 1 + 1 := by rw [← HW2.out]; simp [hsW]
    obtain ⟨W4, HW4⟩ := nm (w3.alloc (.cells #[.slice A3 m c3, .int .i64 0] 54))
    have uA : Upd Non w3 W4 := by rw [← HW4.out]; exact Upd.refl.alloc _
    refine ⟨W4, HW4.out, ?_, ?_, by omega, A3, c3, .int .i64 0, ?_, ?_, ?_, fun x hx => hI x (List.mem_of_mem_take hx)⟩
    · exact (hU2.trans hu3 (fun i hi h => by rw [At.some_] at h; omega)).then_non uA
    · exact (hb2.upd hu3 (by rw [At.some_]; omega)).upd uA (fun f => f)
    · rw [← HW4.out, hm]; exact Blk.new _ _ _
    · have ho4 := ho3.upd uA (fun _ _ f => f)
      refine (Own.ints ho4).mono (fun k hk h => ?_)
      have hlt := ho3.lt h
      rcases hat3 k h with h | h
      · rw [At.some_] at h; omega
      · omega
    · have := ho3.le; omega
  clear hx hx0 hx2
  go_enter Try.func12, Try.ntmps12
  have hlm : xs.length ≤ 20 ∧ m = xs.length ∨ 20 < xs.length ∧ m = 20 := by rw [← hm]; simp; omega
  obtain ⟨l, Hl⟩ := nm xs.length
  rw [Hl.out] at hlm hc
  rw [Hl.out]
  rcases hlm with ⟨hl, rfl⟩ | ⟨hl, rfl⟩
  · go_wp2_with (at_builtin; refine wpList_app rfl rfl T_ints' rfl ho2 rfl hmx (by rw [List.length_map, hm, Nat.mul_one]) (icells_one _) (by simp only [maxLen]; omega) (by omega) ?_; intro A3 c3 w3 ho3 hu3 hat3)
    obtain ⟨W4, HW4, hU4, hb4, hw3, hR⟩ := H A3 c3 w3 ho3 hu3 hat3
    have hW3 : w3.heap.size < W4.heap.size := by rw [← HW4]; simp
    have C := Lib.hid (pat_c n h1 h2 4 (by omega) W4 _ w3.heap.size _ (fun k hk => hk.2) hR)
    rw [HW4]
    clear hR H
    refine C.out.mono ?_
    rintro e w5 ⟨q, K, kc, ys, rfl, hq, hqs, hqk, _, hu5⟩
    unfold pv
    have hb5 := hb4.upd hu5 (by omega)
    have c0 := hb5.cell 0
    have c1 := hb5.cell 1
    have c2 := hb5.cell 2
    have c3 := hb5.cell 3
    have c4 := hb5.cell 4
    have f0 := hb5.frozen
    have u6 := set5_upd w5 w.heap.size (.int .i64 q.v) (.int .i64 q.op) (.int .i64 q.imm) (.int .i64 q.iv) (.slice K q.kids.length kc)
    have hs4 := hU4.size
    go_wp2_with fail
    rw [set5_eq]
    refine bodyPost_ret (results_cell_row rfl _ _ w.heap.size 24 _ (0, 0) _ rfl (set5_blk hb5 _ _ _ _ _) Try.underlying24 rfl (by kernel_rfl)) rfl ?_
    refine ⟨q, K, kc, rfl, hq, by omega, (PtK.upd u6 (fun k _ h e => by omega) _ _ _ hqk).mono (fun k _ h => by omega) _ _ _, ?_⟩
    exact (hU4.trans hu5 (fun i hi h => by omega)).trans u6 (fun i hi h => by omega)
  · have t20 : ((l : Int) ≤ 20) = False := by simp; omega
    obtain ⟨b0, o0, rfl, _⟩ := hmx.at_ (k := 0) (by omega)
    go_wp2_with (at_builtin; refine wpList_app rfl rfl T_ints' rfl ho2 rfl hmx (by rw [List.length_map, hm, Nat.mul_one]) (icells_one _) (by simp only [maxLen]; omega) (by omega) ?_; intro A3 c3 w3 ho3 hu3 hat3)
    obtain ⟨W4, HW4, hU4, hb4, hw3, hR⟩ := H A3 c3 w3 ho3 hu3 hat3
    have hW3 : w3.heap.size < W4.heap.size := by rw [← HW4]; simp
    have C := Lib.hid (pat_c n h1 h2 4 (by omega) W4 _ w3.heap.size _ (fun k hk => hk.2) hR)
    rw [HW4]
    clear hR H
    refine C.out.mono ?_
    rintro e w5 ⟨q, K, kc, ys, rfl, hq, hqs, hqk, _, hu5⟩
    unfold pv
    have hb5 := hb4.upd hu5 (by omega)
    have c0 := hb5.cell 0
    have c1 := hb5.cell 1
    have c2 := hb5.cell 2
    have c3 := hb5.cell 3
    have c4 := hb5.cell 4
    have f0 := hb5.frozen
    have u6 := set5_upd w5 w.heap.size (.int .i64 q.v) (.int .i64 q.op) (.int .i64 q.imm) (.int .i64 q.iv) (.slice K q.kids.length kc)
    have hs4 := hU4.size
    go_wp2_with fail
    rw [set5_eq]
    refine bodyPost_ret (results_cell_row rfl _ _ w.heap.size 24 _ (0, 0) _ rfl (set5_blk hb5 _ _ _ _ _) Try.underlying24 rfl (by kernel_rfl)) rfl ?_
    refine ⟨q, K, kc, rfl, hq, by omega, (PtK.upd u6 (fun k _ h e => by omega) _ _ _ hqk).mono (fun k _ h => by omega) _ _ _, ?_⟩
    exact (hU4.trans hu5 (fun i hi h => by omega)).trans u6 (fun i hi h => by omega)

set_option maxRecDepth 100000 in
set_option maxHeartbeats 4000000 in
theorem op_c (w : World) (k : Int) (a b : Pt) (F G : Nat → Prop) (KA KB : Option Addr) (ka kb : Nat) (ha : PtK w F a KA ka) (hb : PtK w G b KB kb) :
    Calls Try.prog 16 #[.int .i64 k, pv a KA ka, pv b KB kb] w fun e w' => ∃ (K : Option Addr) (kc : Nat), e = .returned (.agg #[.int .i64 0, .int .i64 k, .int .i64 0, .int .i64 0, .slice K 2 kc]) ∧ PtK w' (fun k => F k ∨ G k ∨ w.heap.size ≤ k) (.mk 0 k 0 0 [a, b]) K kc ∧ Upd Non w w' := by
  go_enter Try.func16, Try.ntmps16
  unfold pv
  go_wp2_with fail
  refine bodyPost_ret (results_cell_row rfl _ _ (w.heap.size + 1 + 1) 24 #[.int .i64 0, .int .i64 k, .int .i64 0, .int .i64 0, .slice (some ⟨w.heap.size + 1 + 1 + 1, 0, none⟩) 2 2] (0, 0) _ rfl ((Blk.new' (by simp)).alloc _) Try.underlying24 rfl (by kernel_rfl)) rfl ?_
  obtain ⟨W1, HW1⟩ := nm ((((w.alloc (.cells #[.int .i64 a.v, .int .i64 a.op, .int .i64 a.imm, .int .i64 a.iv, .slice KA a.kids.length ka] 24)).alloc (.cells #[.int .i64 b.v, .int .i64 b.op, .int .i64 b.imm, .int .i64 b.iv, .slice KB b.kids.length kb] 24)).alloc (.cells #[.int .i64 0, .int .i64 k, .int .i64 0, .int .i64 0, .slice (some ⟨w.heap.size + 1 + 1 + 1, 0, none⟩) 2 2] 24)).alloc (.cells #[.int .i64 a.v, .int .i64 a.op, .int .i64 a.imm, .int .i64 a.iv, .slice KA a.kids.length ka, .int .i64 b.v, .int .i64 b.op, .int .i64 b.imm, .int .i64 b.iv, .slice KB b.kids.length kb] 24))
  rw [HW1.out]
  have hU : Upd Non w W1 := by rw [← HW1.out]; exact (((Upd.refl.alloc _).alloc _).alloc _).alloc _
  have hk : Blk W1 (w.heap.size + 1 + 1 + 1) 24 #[.int .i64 a.v, .int .i64 a.op, .int .i64 a.imm, .int .i64 a.iv, .slice KA a.kids.length ka, .int .i64 b.v, .int .i64 b.op, .int .i64 b.imm, .int .i64 b.iv, .slice KB b.kids.length kb] := by rw [← HW1.out]; exact Blk.new' (by simp)
  refine ⟨_, _, rfl, ?_, hU⟩
  exact PtK.two _ _ _ _ hk ((PtK.upd hU (fun _ _ _ f => f) _ _ _ ha).mono (fun k _ h => .inl h) _ _ _) ((PtK.upd hU (fun _ _ _ f => f) _ _ _ hb).mono (fun k _ h => .inr (.inl h)) _ _ _) (.inr (.inr (by omega))) (by omega)
end Go.Proofs.Ytnefhokojbkppaa
