/-
  PolynomialCancel returns true.
-/
import Derived.Test.YtnefhokojbkppaaRNz
import Derived.Test.YtnefhokojbkppaaLawP
namespace Go.Proofs.Ytnefhokojbkppaa
open Go.RowKit

theorem valid_cancel (q : Pt) (h : validF (opP 4 (opP 4 q (unP 21 q)) oneP) 2 0 = true) : validF (opP 5 q q) 2 0 = true := by
  unfold validF at h ⊢
  unfold opP unP oneP at *
  simp only [Pt.size_two, Pt.size_one, Pt.size_leaf, Bool.and_eq_true, decide_eq_true_eq] at h ⊢
  obtain ⟨h1, h2⟩ := h
  refine ⟨by omega, ?_⟩
  have e0 : ∀ vs, vPt (.mk 0 5 0 0 [q, q]) 0 0 vs = vKids [q, q] [1, 1] 0 vs := fun vs => by rw [vPt_bin (by omega), if_pos (.inl rfl)]
  have e1 : ∀ vs, vPt (.mk 0 4 0 0 [q, .mk 0 21 0 0 [q]]) 1 0 vs = vKids [q, .mk 0 21 0 0 [q]] [1, 1] 0 vs := fun vs => by rw [vPt_bin (by omega), if_pos (.inr rfl)]
  have e2 : ∀ vs, vPt (.mk 0 21 0 0 [q]) 1 0 vs = vKids [q] [1] 0 vs := fun vs => by rw [vPt_un (.inr rfl), if_pos (.inr rfl)]
  have e3 : ∀ vs, vPt (.mk 0 4 0 0 [.mk 0 4 0 0 [q, .mk 0 21 0 0 [q]], .mk 0 1 1 0 []]) 0 0 vs = vKids [.mk 0 4 0 0 [q, .mk 0 21 0 0 [q]], .mk 0 1 1 0 []] [1, 1] 0 vs := fun vs => by rw [vPt_bin (by omega), if_pos (.inl rfl)]
  rw [e3] at h2
  rw [e0]
  generalize List.replicate (Int.toNat 2) (0 : Int) = v0 at *
  rcases hA : vPt q 1 0 v0 with ⟨a, v1⟩
  rcases hB : vPt q 1 0 v1 with ⟨b, v2⟩
  cases a <;> cases b <;> simp [vKids, e1, e2, hA, hB] at h2 ⊢
theorem cancel_a {q : Pt} (hq : PolyPt 2 q) {r : PL} (h : validF (opP 5 q q) 2 0 = true) (z : NzIs 2 (normF (opP 5 q q) 2) r) : (normF (opP 5 q q) 2).isSome = true ∧ mns r = [] := by
  obtain ⟨l, hl⟩ := PolyPt.wf (n := 2) hq
  have e : normF (opP 5 q q) 2 = some (l ++ scale (-1) l) := by unfold normF; rw [if_pos h]; exact tm_sub hl hl
  obtain ⟨_, _, h1, _⟩ := z
  obtain ⟨hnf, he⟩ := h1 _ e
  refine ⟨by rw [e]; rfl, ?_⟩
  have : r = [] := NF.uniq hnf NF.nil (he.trans (Eqv.of fun x => by rw [coef_append, coef_scale, coef_nil]; omega))
  rw [this]; rfl
theorem cancel_b {q : Pt} (hq : PolyPt 2 q) {r : PL} (h : validF (opP 4 (opP 4 q (unP 21 q)) oneP) 2 0 = true) (z : NzIs 2 (normF (opP 4 (opP 4 q (unP 21 q)) oneP) 2) r) : mns r = [] := by
  obtain ⟨l, hl⟩ := PolyPt.wf (n := 2) hq
  have e : normF (opP 4 (opP 4 q (unP 21 q)) oneP) 2 = some ((l ++ ((zeroM 2, -1) :: scale (-1) l)) ++ [(zeroM 2, 1)]) := by unfold normF; rw [if_pos h]; exact tm_add (tm_add hl (tm_not hl)) (tm_const 1)
  obtain ⟨_, _, h1, _⟩ := z
  obtain ⟨hnf, he⟩ := h1 _ e
  have : r = [] := NF.uniq hnf NF.nil (he.trans (Eqv.of fun x => by
    rw [coef_append, coef_append, coef_cons, coef_scale, coef_one, coef_nil]
    dsimp only
    split <;> omega))
  rw [this]; rfl
theorem cancel_c {q : Pt} (hq : PolyPt 2 q) : (normF (opP 4 (opP 4 q (unP 21 q)) oneP) 2).isSome = validF (opP 4 (opP 4 q (unP 21 q)) oneP) 2 0 := by
  obtain ⟨l, hl⟩ := PolyPt.wf (n := 2) hq
  cases h : validF (opP 4 (opP 4 q (unP 21 q)) oneP) 2 0 with
  | true =>
    have e : normF (opP 4 (opP 4 q (unP 21 q)) oneP) 2 = some ((l ++ ((zeroM 2, -1) :: scale (-1) l)) ++ [(zeroM 2, 1)]) := by unfold normF; rw [if_pos h]; exact tm_add (tm_add hl (tm_not hl)) (tm_const 1)
    rw [e]; rfl
  | false => unfold normF; rw [h]; rfl

set_option maxRecDepth 100000 in
set_option maxHeartbeats 4000000 in
theorem poCancel_c (w : World) (F : Nat → Prop) (A : Option Addr) (c : Nat) (xs : List Int) (hx : Ints w F A xs) (hc : xs.length ≤ c) (hI : ∀ x ∈ xs, I64 x) (hn : xs.length ≤ 100000000000000) :
    Calls Try.prog 7 #[.slice A xs.length c] w fun e w' => e = .returned (.bool true) ∧ Upd Non w w' := by
  have hm6 : (xs.take 4).length = min 4 xs.length := by simp
  have C2 := Lib.hid (pattern_c w F A c (xs.take 4) 2 (by omega) (by omega) (hx.take_ 4) (by omega) (fun x hx => hI x (List.mem_of_mem_take hx)) (by omega))
  obtain ⟨m, Hm⟩ := nm (xs.take 4).length
  rw [Hm.out] at C2 hm6
  rw [show ((2 : Nat) : Int) = 2 from rfl] at C2
  obtain ⟨l, Hl⟩ := nm xs.length
  rw [Hl.out] at hm6 hc
  rw [Hl.out]
  have hmin : (min (l : Int) 4).toNat = m := by omega
  clear hx hm6 hI
  go_enter Try.func7, Try.ntmps7
  go_wp2_with fail
  try rw [hmin]
  refine C2.out.mono ?_
  rintro e w1 ⟨q, KA, kc, rfl, hq, hqs, hqk, hu1⟩
  obtain ⟨W0, HW0⟩ := nm (w1.alloc (.cells #[.int .i64 q.v, .int .i64 q.op, .int .i64 q.imm, .int .i64 q.iv, .slice KA q.kids.length kc] 24))
  have e0 := HW0.out
  have b0 : Blk W0 w1.heap.size 24 #[.int .i64 q.v, .int .i64 q.op, .int .i64 q.imm, .int .i64 q.iv, .slice KA q.kids.length kc] := by rw [← e0]; exact Blk.new _ _ _
  have hs0 : W0.heap.size = w1.heap.size + 1 := by rw [← e0]; simp
  obtain ⟨W1, HW1⟩ := nm (W0.alloc (.cells #[.int .i64 0, .int .i64 1, .int .i64 1, .int .i64 0, .slice none 0 0] 24))
  have u0 : Upd Non w1 W0 := by rw [← e0]; exact Upd.refl.alloc _
  have u1 : Upd Non W0 W1 := by rw [← HW1.out]; exact Upd.refl.alloc _
  have b1 : Blk W1 (w1.heap.size + 1) 24 #[.int .i64 0, .int .i64 1, .int .i64 1, .int .i64 0, .slice none 0 0] := by rw [← HW1.out, ← hs0]; exact Blk.new _ _ _
  have b0 := b0.upd u1 (fun f => f)
  have hU1 : Upd Non w W1 := (hu1.then_non u0).then_non u1
  have hk := PtK.upd (u0.then_non u1) (fun _ _ _ f => f) _ _ _ hqk
  have hk := hk.mono (G := fun _ => True) (fun _ _ _ => trivial) _ _ _
  unfold pv
  have SS : ∀ w', Upd Non W1 w' → w'.cell? ⟨w1.heap.size, 0, none⟩ = some (.int .i64 q.v) ∧ w'.cell? ⟨w1.heap.size, 1, none⟩ = some (.int .i64 q.op) ∧ w'.cell? ⟨w1.heap.size, 2, none⟩ = some (.int .i64 q.imm) ∧ w'.cell? ⟨w1.heap.size, 3, none⟩ = some (.int .i64 q.iv) ∧ w'.cell? ⟨w1.heap.size, 4, none⟩ = some (.slice KA q.kids.length kc) ∧ w'.cell? ⟨w1.heap.size + 1, 0, none⟩ = some (.int .i64 0) ∧ w'.cell? ⟨w1.heap.size + 1, 1, none⟩ = some (.int .i64 1) ∧ w'.cell? ⟨w1.heap.size + 1, 2, none⟩ = some (.int .i64 1) ∧ w'.cell? ⟨w1.heap.size + 1, 3, none⟩ = some (.int .i64 0) ∧ w'.cell? ⟨w1.heap.size + 1, 4, none⟩ = some (.slice none 0 0) := fun w' u =>
    ⟨cell_upd (b0.cell 0) u (fun f => f), cell_upd (b0.cell 1) u (fun f => f), cell_upd (b0.cell 2) u (fun f => f), cell_upd (b0.cell 3) u (fun f => f), cell_upd (b0.cell 4) u (fun f => f), cell_upd (b1.cell 0) u (fun f => f), cell_upd (b1.cell 1) u (fun f => f), cell_upd (b1.cell 2) u (fun f => f), cell_upd (b1.cell 3) u (fun f => f), cell_upd (b1.cell 4) u (fun f => f)⟩
  have HS := Lib.hid SS
  have c0 := b0.cell 0
  have c1 := b0.cell 1
  have c2 := b0.cell 2
  have c3 := b0.cell 3
  have c4 := b0.cell 4
  have C3 : Hid (Calls Try.prog 16 #[.int .i64 5, .agg #[.int .i64 q.v, .int .i64 q.op, .int .i64 q.imm, .int .i64 q.iv, .slice KA q.kids.length kc], .agg #[.int .i64 q.v, .int .i64 q.op, .int .i64 q.imm, .int .i64 q.iv, .slice KA q.kids.length kc]] W1 _) := op_c W1 5 q q (fun _ => True) (fun _ => True) KA KA kc kc hk hk
  have HZ := Lib.hid hqs
  clear C2 hu1 u0 u1 SS hqk b0 b1
  go_upto_region 3 with fail
  rw [HW1.out]
  go_wp2_with fail
  refine C3.out.mono ?_
  rintro e w2 ⟨K2, d2, rfl, hk2, hu2⟩
  have C4 := Lib.hid (normU_c (opP 5 q q) w2 _ K2 d2 2 hk2 (by unfold opP; rw [Pt.size_two]; omega))
  unfold pv opP at C4
  obtain ⟨o1, Ho1⟩ := nm (normF (opP 5 q q) 2)
  unfold opP at Ho1
  rw [Ho1.out] at C4
  clear C3
  go_wp2_with fail
  refine C4.out.mono ?_
  rintro e w3 ⟨r1, A1, a1, rfl, hv1, hz1, hu3⟩
  have u3 := hu2.then_non hu3
  have HZ1 := Lib.hid hz1
  clear C4 hv1 hz1 hk2 c0 c1 c2 c3 c4
  obtain ⟨o2, Ho2⟩ := nm (normF (opP 4 (opP 4 q (unP 21 q)) oneP) 2)
  have hbs : (opP 4 (opP 4 q (unP 21 q)) oneP).size ≤ 1000 := by unfold opP unP oneP; rw [Pt.size_two, Pt.size_two, Pt.size_one, Pt.size_leaf]; omega
  have CN : Hid (∀ (w : World) (F : Nat → Prop) (K : Option Addr) (d : Nat), PtK w F (opP 4 (opP 4 q (unP 21 q)) oneP) K d → Calls Try.prog 10 #[.agg #[.int .i64 0, .int .i64 4, .int .i64 0, .int .i64 0, .slice K 2 d], .int .i64 2] w fun e w' => ∃ (r : PL) (A : Option Addr) (c : Nat), e = .returned (.tuple #[.slice A (mns r).length c, .bool o2.isSome]) ∧ MonsV w' (fun k => w.heap.size ≤ k) A (mns r) ∧ NzIs 2 o2 r ∧ Upd Non w w') := by
    intro w F K d h
    rw [← Ho2.out]
    exact normU_c _ w F K d 2 h (by omega)
  have CM : Hid (∀ (w : World) (F : Nat → Prop) (K : Option Addr) (d : Nat), PtK w F (opP 4 (opP 4 q (unP 21 q)) oneP) K d → Calls Try.prog 18 #[.agg #[.int .i64 0, .int .i64 4, .int .i64 0, .int .i64 0, .slice K 2 d], .int .i64 2] w fun e w' => ∃ (r : PL) (A : Option Addr) (c : Nat), e = .returned (.tuple #[.slice A (mns r).length c, .bool o2.isSome]) ∧ MonsV w' (fun k => w.heap.size ≤ k) A (mns r) ∧ NzIs 2 o2 r ∧ Upd Non w w') := by
    intro w F K d h
    rw [← Ho2.out]
    exact r18Normalize_c _ w F K d 2 h (by omega)
  obtain ⟨wP, rfl⟩ : ∃ x : World, x = w3 := ⟨_, rfl⟩
  have uP := u3
  go_wp2_with fail
  obtain ⟨wD, HwD⟩ := nm wP.drew
  have uD : Upd Non wP wD := by rw [← HwD.out]; exact Upd.refl.drew
  have v0 := uP.then_non uD
  refine wp_region_held_drew (S := fun w' => w'.cell? ⟨w1.heap.size, 0, none⟩ = some (.int .i64 q.v) ∧ w'.cell? ⟨w1.heap.size, 1, none⟩ = some (.int .i64 q.op) ∧ w'.cell? ⟨w1.heap.size, 2, none⟩ = some (.int .i64 q.imm) ∧ w'.cell? ⟨w1.heap.size, 3, none⟩ = some (.int .i64 q.iv) ∧ w'.cell? ⟨w1.heap.size, 4, none⟩ = some (.slice KA q.kids.length kc) ∧ w'.cell? ⟨w1.heap.size + 1, 0, none⟩ = some (.int .i64 0) ∧ w'.cell? ⟨w1.heap.size + 1, 1, none⟩ = some (.int .i64 1) ∧ w'.cell? ⟨w1.heap.size + 1, 2, none⟩ = some (.int .i64 1) ∧ w'.cell? ⟨w1.heap.size + 1, 3, none⟩ = some (.int .i64 0) ∧ w'.cell? ⟨w1.heap.size + 1, 4, none⟩ = some (.slice none 0 0)) (by kernel_rfl) (by rw [HwD.out]; exact HS.out _ v0) (fun hHeld => ?_)
  rw [HwD.out] at hHeld ⊢
  refine wpAnyH_take (i := 0) (v := ?_) rfl (by kernel_rfl) (by kernel_rfl) (by kernel_rfl) (fun _ _ _ h => h) (Or.inl ⟨by rfl, ?_⟩) (by assumption) ?_
  rotate_left
  · intro w hSw; (try dsimp only at hSw); go_simp; try with_reducible rfl
  try simp only [put_y]
  try simp only [Act.put]
  try simp only [put_z]
  refine wpAnyH_take (i := 1) (v := ?_) rfl (by kernel_rfl) (by kernel_rfl) (by kernel_rfl) (fun _ _ _ h => h) (Or.inl ⟨by rfl, ?_⟩) (by assumption) ?_
  rotate_left
  · intro w hSw; (try dsimp only at hSw); go_simp; try with_reducible rfl
  try simp only [put_y]
  try simp only [Act.put]
  try simp only [put_z]
  refine wpAnyH_take (i := 5) (v := ?_) rfl (by kernel_rfl) (by kernel_rfl) (by kernel_rfl) (fun _ _ _ h => h) (Or.inl ⟨by rfl, ?_⟩) (by assumption) ?_
  rotate_left
  · intro w hSw; (try dsimp only at hSw); go_simp; try with_reducible rfl
  try simp only [put_y]
  try simp only [Act.put]
  try simp only [put_z]
  refine wpAnyH_ready (rs := [2]) (by kernel_rfl) (by simp) ?_
  refine AllReadyH.cons rfl (fun K hK => ?_) AllReadyH.nil
  go_simp
  obtain ⟨wA, HwA⟩ := nm (wD.alloc (.cells #[.int .i64 q.v, .int .i64 q.op, .int .i64 q.imm, .int .i64 q.iv, .slice KA q.kids.length kc] 24))
  have uA : Upd Non wD wA := by rw [← HwA.out]; exact Upd.refl.alloc _
  have bA : Blk wA wD.heap.size 24 #[.int .i64 q.v, .int .i64 q.op, .int .i64 q.imm, .int .i64 q.iv, .slice KA q.kids.length kc] := by rw [← HwA.out]; exact Blk.new _ _ _
  have v1 := v0.then_non uA
  have hkA := PtK.upd v1 (fun _ _ _ f => f) _ _ _ hk
  have hun : PtK wA (fun _ => True) (unP 21 q) (some ⟨wD.heap.size, 0, none⟩) 1 := PtK.one _ _ _ _ bA hkA trivial (by decide)
  rw [HwA.out]
  refine hK.out _ _ ?_ (fun hHeld => ?_)
  · exact HS.out _ v1
  clear hK K
  try simp only [put_y]
  try simp only [Act.put]
  try simp only [put_z]
  refine wpAnyH_take (i := 3) (v := ?_) rfl (by kernel_rfl) (by kernel_rfl) (by kernel_rfl) (fun _ _ _ h => h) (Or.inl ⟨by rfl, ?_⟩) (by assumption) ?_
  rotate_left
  · intro w hSw; (try dsimp only at hSw); go_simp; try with_reducible rfl
  try simp only [put_y]
  try simp only [Act.put]
  try simp only [put_z]
  refine wpAnyH_ready (rs := [4]) (by kernel_rfl) (by simp) ?_
  refine AllReadyH.cons rfl (fun K hK => ?_) AllReadyH.nil
  go_simp
  have C5 : Hid (Calls Try.prog 16 #[.int .i64 4, .agg #[.int .i64 q.v, .int .i64 q.op, .int .i64 q.imm, .int .i64 q.iv, .slice KA q.kids.length kc], .agg #[.int .i64 0, .int .i64 21, .int .i64 0, .int .i64 0, .slice (some ⟨wD.heap.size, 0, none⟩) 1 1]] wA _) := op_c wA 4 q (unP 21 q) (fun _ => True) (fun _ => True) KA _ kc 1 hkA hun
  refine C5.out.mono ?_
  rintro e w5 ⟨K5, d5, rfl, hk5, hu5⟩
  have v2 := v1.then_non hu5
  go_wp2_with fail
  refine hK.out _ _ ?_ (fun hHeld => ?_)
  · exact HS.out _ v2
  clear hK K
  try simp only [put_y]
  try simp only [Act.put]
  try simp only [put_z]
  refine wpAnyH_ready (rs := [6]) (by kernel_rfl) (by simp) ?_
  refine AllReadyH.cons rfl (fun K hK => ?_) AllReadyH.nil
  go_simp
  have C6 : Hid (Calls Try.prog 16 #[.int .i64 4, .agg #[.int .i64 0, .int .i64 4, .int .i64 0, .int .i64 0, .slice K5 2 d5], .agg #[.int .i64 0, .int .i64 1, .int .i64 1, .int .i64 0, .slice none 0 0]] w5 _) := op_c w5 4 (opP 4 q (unP 21 q)) oneP _ (fun _ => False) K5 none d5 0 hk5 PtK.leaf
  refine C6.out.mono ?_
  rintro e w6 ⟨K6, d6, rfl, hk6, hu6⟩
  have v3 := v2.then_non hu6
  go_wp2_with fail
  refine hK.out _ _ ?_ (fun hHeld => ?_)
  · exact HS.out _ v3
  clear hK K
  try simp only [put_y]
  try simp only [Act.put]
  try simp only [put_z]
  refine wpAnyH_ready (rs := [7]) (by kernel_rfl) (by simp) ?_
  refine AllReadyH.cons rfl (fun K hK => ?_) AllReadyH.nil
  go_simp
  refine (CN.out w6 _ K6 d6 hk6).mono ?_
  rintro e w7 ⟨r7, A7, a7, rfl, hv7, hz7, hu7⟩
  have v4 := v3.then_non hu7
  go_wp2_with fail
  refine hK.out _ _ ?_ (fun hHeld => ?_)
  · exact HS.out _ v4
  clear hK K
  try simp only [put_y]
  try simp only [Act.put]
  try simp only [put_z]
  refine wpAnyH_take (i := 8) (v := ?_) rfl (by kernel_rfl) (by kernel_rfl) (by kernel_rfl) (fun _ _ _ h => h) (Or.inl ⟨by rfl, ?_⟩) (by assumption) ?_
  rotate_left
  · intro w hSw; (try dsimp only at hSw); go_simp; try with_reducible rfl
  try simp only [put_y]
  try simp only [Act.put]
  try simp only [put_z]
  refine wpAnyH_take (i := 9) (v := ?_) rfl (by kernel_rfl) (by kernel_rfl) (by kernel_rfl) (fun _ _ _ h => h) (Or.inl ⟨by rfl, ?_⟩) (by assumption) ?_
  rotate_left
  · intro w hSw; (try dsimp only at hSw); go_simp; try with_reducible rfl
  try simp only [put_y]
  try simp only [Act.put]
  try simp only [put_z]
  refine wpAnyH_take (i := 10) (v := ?_) rfl (by kernel_rfl) (by kernel_rfl) (by kernel_rfl) (fun _ _ _ h => h) (Or.inl ⟨by rfl, ?_⟩) (by assumption) ?_
  rotate_left
  · intro w hSw; (try dsimp only at hSw); go_simp; try with_reducible rfl
  try simp only [put_y]
  try simp only [Act.put]
  try simp only [put_z]
  refine wpAnyH_take (i := 11) (v := ?_) rfl (by kernel_rfl) (by kernel_rfl) (by kernel_rfl) (fun _ _ _ h => h) (Or.inl ⟨by rfl, ?_⟩) (by assumption) ?_
  rotate_left
  · intro w hSw; (try dsimp only at hSw); go_simp; try with_reducible rfl
  try simp only [put_y]
  try simp only [Act.put]
  try simp only [put_z]
  refine wpAnyH_take (i := 12) (v := ?_) rfl (by kernel_rfl) (by kernel_rfl) (by kernel_rfl) (fun _ _ _ h => h) (Or.inl ⟨by rfl, ?_⟩) (by assumption) ?_
  rotate_left
  · intro w hSw; (try dsimp only at hSw); go_simp; try with_reducible rfl
  try simp only [put_y]
  try simp only [Act.put]
  try simp only [put_z]
  refine wpAnyH_done (by kernel_rfl) ?_ _
  clear C5 C6 hk5 hk6 hu5 hu6 hu7 bA hkA hun v0 v1 v2 v3 uA uD
  have HZ2 := Lib.hid hz7
  obtain ⟨s1, Hs1⟩ := nm (mns r1).length
  obtain ⟨s2, Hs2⟩ := nm (mns r7).length
  rw [Hs1.out, Hs2.out]
  clear CN hv7 hz7
  have CN := CM
  clear CM uP
  have uP := v4
  clear v4
  obtain ⟨wP, rfl⟩ : ∃ x : World, x = w7 := ⟨_, rfl⟩
  go_wp2_with fail
  obtain ⟨wD, HwD⟩ := nm wP.drew
  have uD : Upd Non wP wD := by rw [← HwD.out]; exact Upd.refl.drew
  have v0 := uP.then_non uD
  refine wp_region_held_drew (S := fun w' => w'.cell? ⟨w1.heap.size, 0, none⟩ = some (.int .i64 q.v) ∧ w'.cell? ⟨w1.heap.size, 1, none⟩ = some (.int .i64 q.op) ∧ w'.cell? ⟨w1.heap.size, 2, none⟩ = some (.int .i64 q.imm) ∧ w'.cell? ⟨w1.heap.size, 3, none⟩ = some (.int .i64 q.iv) ∧ w'.cell? ⟨w1.heap.size, 4, none⟩ = some (.slice KA q.kids.length kc) ∧ w'.cell? ⟨w1.heap.size + 1, 0, none⟩ = some (.int .i64 0) ∧ w'.cell? ⟨w1.heap.size + 1, 1, none⟩ = some (.int .i64 1) ∧ w'.cell? ⟨w1.heap.size + 1, 2, none⟩ = some (.int .i64 1) ∧ w'.cell? ⟨w1.heap.size + 1, 3, none⟩ = some (.int .i64 0) ∧ w'.cell? ⟨w1.heap.size + 1, 4, none⟩ = some (.slice none 0 0)) (by kernel_rfl) (by rw [HwD.out]; exact HS.out _ v0) (fun hHeld => ?_)
  rw [HwD.out] at hHeld ⊢
  refine wpAnyH_take (i := 0) (v := ?_) rfl (by kernel_rfl) (by kernel_rfl) (by kernel_rfl) (fun _ _ _ h => h) (Or.inl ⟨by rfl, ?_⟩) (by assumption) ?_
  rotate_left
  · intro w hSw; (try dsimp only at hSw); go_simp; try with_reducible rfl
  try simp only [put_y]
  try simp only [Act.put]
  try simp only [put_z]
  refine wpAnyH_take (i := 1) (v := ?_) rfl (by kernel_rfl) (by kernel_rfl) (by kernel_rfl) (fun _ _ _ h => h) (Or.inl ⟨by rfl, ?_⟩) (by assumption) ?_
  rotate_left
  · intro w hSw; (try dsimp only at hSw); go_simp; try with_reducible rfl
  try simp only [put_y]
  try simp only [Act.put]
  try simp only [put_z]
  refine wpAnyH_take (i := 5) (v := ?_) rfl (by kernel_rfl) (by kernel_rfl) (by kernel_rfl) (fun _ _ _ h => h) (Or.inl ⟨by rfl, ?_⟩) (by assumption) ?_
  rotate_left
  · intro w hSw; (try dsimp only at hSw); go_simp; try with_reducible rfl
  try simp only [put_y]
  try simp only [Act.put]
  try simp only [put_z]
  refine wpAnyH_ready (rs := [2]) (by kernel_rfl) (by simp) ?_
  refine AllReadyH.cons rfl (fun K hK => ?_) AllReadyH.nil
  go_simp
  obtain ⟨wA, HwA⟩ := nm (wD.alloc (.cells #[.int .i64 q.v, .int .i64 q.op, .int .i64 q.imm, .int .i64 q.iv, .slice KA q.kids.length kc] 24))
  have uA : Upd Non wD wA := by rw [← HwA.out]; exact Upd.refl.alloc _
  have bA : Blk wA wD.heap.size 24 #[.int .i64 q.v, .int .i64 q.op, .int .i64 q.imm, .int .i64 q.iv, .slice KA q.kids.length kc] := by rw [← HwA.out]; exact Blk.new _ _ _
  have v1 := v0.then_non uA
  have hkA := PtK.upd v1 (fun _ _ _ f => f) _ _ _ hk
  have hun : PtK wA (fun _ => True) (unP 21 q) (some ⟨wD.heap.size, 0, none⟩) 1 := PtK.one _ _ _ _ bA hkA trivial (by decide)
  rw [HwA.out]
  refine hK.out _ _ ?_ (fun hHeld => ?_)
  · exact HS.out _ v1
  clear hK K
  try simp only [put_y]
  try simp only [Act.put]
  try simp only [put_z]
  refine wpAnyH_take (i := 3) (v := ?_) rfl (by kernel_rfl) (by kernel_rfl) (by kernel_rfl) (fun _ _ _ h => h) (Or.inl ⟨by rfl, ?_⟩) (by assumption) ?_
  rotate_left
  · intro w hSw; (try dsimp only at hSw); go_simp; try with_reducible rfl
  try simp only [put_y]
  try simp only [Act.put]
  try simp only [put_z]
  refine wpAnyH_ready (rs := [4]) (by kernel_rfl) (by simp) ?_
  refine AllReadyH.cons rfl (fun K hK => ?_) AllReadyH.nil
  go_simp
  have C5 : Hid (Calls Try.prog 16 #[.int .i64 4, .agg #[.int .i64 q.v, .int .i64 q.op, .int .i64 q.imm, .int .i64 q.iv, .slice KA q.kids.length kc], .agg #[.int .i64 0, .int .i64 21, .int .i64 0, .int .i64 0, .slice (some ⟨wD.heap.size, 0, none⟩) 1 1]] wA _) := op_c wA 4 q (unP 21 q) (fun _ => True) (fun _ => True) KA _ kc 1 hkA hun
  refine C5.out.mono ?_
  rintro e w5 ⟨K5, d5, rfl, hk5, hu5⟩
  have v2 := v1.then_non hu5
  go_wp2_with fail
  refine hK.out _ _ ?_ (fun hHeld => ?_)
  · exact HS.out _ v2
  clear hK K
  try simp only [put_y]
  try simp only [Act.put]
  try simp only [put_z]
  refine wpAnyH_ready (rs := [6]) (by kernel_rfl) (by simp) ?_
  refine AllReadyH.cons rfl (fun K hK => ?_) AllReadyH.nil
  go_simp
  have C6 : Hid (Calls Try.prog 16 #[.int .i64 4, .agg #[.int .i64 0, .int .i64 4, .int .i64 0, .int .i64 0, .slice K5 2 d5], .agg #[.int .i64 0, .int .i64 1, .int .i64 1, .int .i64 0, .slice none 0 0]] w5 _) := op_c w5 4 (opP 4 q (unP 21 q)) oneP _ (fun _ => False) K5 none d5 0 hk5 PtK.leaf
  refine C6.out.mono ?_
  rintro e w6 ⟨K6, d6, rfl, hk6, hu6⟩
  have v3 := v2.then_non hu6
  go_wp2_with fail
  refine hK.out _ _ ?_ (fun hHeld => ?_)
  · exact HS.out _ v3
  clear hK K
  try simp only [put_y]
  try simp only [Act.put]
  try simp only [put_z]
  refine wpAnyH_ready (rs := [7]) (by kernel_rfl) (by simp) ?_
  refine AllReadyH.cons rfl (fun K hK => ?_) AllReadyH.nil
  go_simp
  refine (CN.out w6 _ K6 d6 hk6).mono ?_
  rintro e w7 ⟨r7, A7, a7, rfl, hv7, hz7, hu7⟩
  have v4 := v3.then_non hu7
  go_wp2_with fail
  refine hK.out _ _ ?_ (fun hHeld => ?_)
  · exact HS.out _ v4
  clear hK K
  try simp only [put_y]
  try simp only [Act.put]
  try simp only [put_z]
  refine wpAnyH_take (i := 8) (v := ?_) rfl (by kernel_rfl) (by kernel_rfl) (by kernel_rfl) (fun _ _ _ h => h) (Or.inl ⟨by rfl, ?_⟩) (by assumption) ?_
  rotate_left
  · intro w hSw; (try dsimp only at hSw); go_simp; try with_reducible rfl
  try simp only [put_y]
  try simp only [Act.put]
  try simp only [put_z]
  refine wpAnyH_take (i := 9) (v := ?_) rfl (by kernel_rfl) (by kernel_rfl) (by kernel_rfl) (fun _ _ _ h => h) (Or.inl ⟨by rfl, ?_⟩) (by assumption) ?_
  rotate_left
  · intro w hSw; (try dsimp only at hSw); go_simp; try with_reducible rfl
  try simp only [put_y]
  try simp only [Act.put]
  try simp only [put_z]
  refine wpAnyH_take (i := 10) (v := ?_) rfl (by kernel_rfl) (by kernel_rfl) (by kernel_rfl) (fun _ _ _ h => h) (Or.inl ⟨by rfl, ?_⟩) (by assumption) ?_
  rotate_left
  · intro w hSw; (try dsimp only at hSw); go_simp; try with_reducible rfl
  try simp only [put_y]
  try simp only [Act.put]
  try simp only [put_z]
  refine wpAnyH_take (i := 11) (v := ?_) rfl (by kernel_rfl) (by kernel_rfl) (by kernel_rfl) (fun _ _ _ h => h) (Or.inl ⟨by rfl, ?_⟩) (by assumption) ?_
  rotate_left
  · intro w hSw; (try dsimp only at hSw); go_simp; try with_reducible rfl
  try simp only [put_y]
  try simp only [Act.put]
  try simp only [put_z]
  refine wpAnyH_take (i := 12) (v := ?_) rfl (by kernel_rfl) (by kernel_rfl) (by kernel_rfl) (fun _ _ _ h => h) (Or.inl ⟨by rfl, ?_⟩) (by assumption) ?_
  rotate_left
  · intro w hSw; (try dsimp only at hSw); go_simp; try with_reducible rfl
  try simp only [put_y]
  try simp only [Act.put]
  try simp only [put_z]
  refine wpAnyH_done (by kernel_rfl) ?_ _
  clear C5 C6 hk5 hk6 hu5 hu6 hu7 bA hkA hun v0 v1 v2 v3 uA uD
  have HVA := Lib.hid (valid_cancel q)
  have HCA := Lib.hid (fun h z => @cancel_a q hq r1 h z)
  have HCC := Lib.hid (cancel_c hq)
  obtain ⟨r2, hr2⟩ : ∃ r : PL, Hid ((mns r).length = s2 ∧ NzIs 2 o2 r) := ⟨_, Hs2.out, HZ2.out⟩
  have HCB := Lib.hid (fun h z => @cancel_b q hq r2 h z)
  rw [Ho2.out] at HCC HCB
  have hU7 := hU1.then_non v4
  obtain ⟨s3, Hs3⟩ := nm (mns r7).length
  rw [Hs3.out]
  cases hv : validF (opP 4 (opP 4 q (unP 21 q)) oneP) 2 0 with
  | false =>
    have ho : o2.isSome = false := by rw [HCC.out]; exact hv
    clear hv hv7 hz7 HVA HCA HCB
    have C8 := Lib.hid (poExamples_c w7)
    go_wp2_with fail
    refine C8.out.mono ?_
    rintro e w8 ⟨rfl, hu8⟩
    go_wp2_with fail
    go_ret
    exact ⟨rfl, hU7.then_non hu8⟩
  | true =>
    have ho : o2.isSome = true := by rw [HCC.out]; exact hv
    have h5 := HVA.out hv
    obtain ⟨ho1, hm1⟩ := HCA.out h5 (by unfold opP; rw [Ho1.out]; exact HZ1.out)
    have hm2 := HCB.out hv hr2.out.2
    unfold opP at ho1
    rw [Ho1.out] at ho1
    have e1 : s1 = 0 := by rw [← Hs1.out, hm1]; rfl
    have e2 : s2 = 0 := by rw [← hr2.out.1, hm2]; rfl
    subst e1
    subst e2
    clear hv h5 hv7 hz7 HVA HCA HCB hm1 hm2
    have C8 := Lib.hid (poExamples_c w7)
    go_wp2_with fail
    refine C8.out.mono ?_
    rintro e w8 ⟨rfl, hu8⟩
    go_wp2_with fail
    go_ret
    exact ⟨rfl, hU7.then_non hu8⟩
end Go.Proofs.Ytnefhokojbkppaa
