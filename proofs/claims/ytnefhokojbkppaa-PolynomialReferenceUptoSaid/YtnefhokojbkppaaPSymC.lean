/-
  PolynomialSymmetric returns true.
-/
import Derived.Test.YtnefhokojbkppaaKBoth
import Derived.Test.YtnefhokojbkppaaPLaw
namespace Go.Proofs.Ytnefhokojbkppaa
open Go.RowKit

theorem both_sz {q R : Pt} (h : q.size ≤ 62) (g : R.size ≤ 200) : RlSz (bothF q R) := by
  have h1 := (numF_len q [] []).2.2
  have h2 : (sideF 20 (numF q [] []).1).size ≤ 63 := by
    unfold sideF
    split
    · rw [Pt.size_one]; omega
    · omega
  exact ⟨by show (sideF 20 (numF q [] []).1).size ≤ _; omega, by show R.size ≤ _; omega, by simp [bothF], by show (1 : Nat) ≤ _; omega⟩
/-- The left side stored. -/
def setLt (w : World) (g : Nat) (a b c d e : Value) : World := ((((w.setCell ⟨g, 1, none⟩ a).setCell ⟨g, 2, none⟩ b).setCell ⟨g, 3, none⟩ c).setCell ⟨g, 4, none⟩ d).setCell ⟨g, 5, none⟩ e
theorem setLt_blk {w : World} {g : Nat} {t : TypeId} {x0 x1 x2 x3 x4 x5 x6 x7 x8 x9 x10 x11 x12 x13 : Value} (h : Blk w g t #[x0, x1, x2, x3, x4, x5, x6, x7, x8, x9, x10, x11, x12, x13]) (a b c d e : Value) : Blk (setLt w g a b c d e) g t #[x0, a, b, c, d, e, x6, x7, x8, x9, x10, x11, x12, x13] := by
  have := ((((h.set_ 1 a).set_ 2 b).set_ 3 c).set_ 4 d).set_ 5 e
  simpa [setLt] using this
theorem setLt_upd (w : World) (g : Nat) (a b c d e : Value) : Upd (· = g) w (setLt w g a b c d e) := by
  unfold setLt
  exact ((((updCell _ _ _ _).trans (updCell _ _ _ _) (fun _ _ h => h)).trans (updCell _ _ _ _) (fun _ _ h => h)).trans (updCell _ _ _ _) (fun _ _ h => h)).trans (updCell _ _ _ _) (fun _ _ h => h)
theorem setLt_eq (w : World) (g : Nat) (a b c d e : Value) : ((((w.setCell ⟨g, 1, none⟩ a).setCell ⟨g, 2, none⟩ b).setCell ⟨g, 3, none⟩ c).setCell ⟨g, 4, none⟩ d).setCell ⟨g, 5, none⟩ e = setLt w g a b c d e := rfl

set_option maxRecDepth 100000 in
set_option maxHeartbeats 4000000 in
theorem poSymmetric_c (w : World) (F G : Nat → Prop) (A B : Option Addr) (c d : Nat) (xs ys : List Int) (vs : Int) (hx : Ints w F A xs) (hc : xs.length ≤ c) (hI : ∀ x ∈ xs, I64 x) (hn : xs.length ≤ 100000000000000)
    (hy : Ints w G B ys) (hd : ys.length ≤ d) (hJ : ∀ x ∈ ys, I64 x) (hm : ys.length ≤ 100000000000000) :
    Calls Try.prog 9 #[.slice A xs.length c, .slice B ys.length d, .int .i64 vs] w fun e w' => e = .returned (.bool true) ∧ Upd Non w w' := by
  obtain ⟨k, hk⟩ : ∃ k : Nat, vs % 3 = (k : Int) := Int.eq_ofNat_of_zero_le (by omega)
  have hk3 : k < 3 := by omega
  have C0 := Lib.hid (pick_c vs 3 w (by omega) (by omega))
  rw [hk] at C0
  have C1 := Lib.hid (both_c w F G A B c d xs ys (1 + k) (by omega) (by omega) hx hc hI hn hy hd hJ hm)
  rw [show ((1 + k : Nat) : Int) = 1 + (k : Int) by omega] at C1
  obtain ⟨l, Hl⟩ := nm xs.length
  obtain ⟨m, Hm⟩ := nm ys.length
  rw [Hl.out, Hm.out] at C1
  rw [Hl.out, Hm.out]
  clear hx hy hc hd hI hJ hn hm
  go_enter Try.func9, Try.ntmps9
  go_wp2_with fail
  refine C0.out.mono ?_
  rintro e w1 ⟨rfl, rfl⟩
  go_wp2_with fail
  refine C1.out.mono ?_
  rintro e w2 ⟨q, R, a, rfl, hq, hR, hK, hu2⟩
  have HSY := Lib.hid (fun b ms ms' h g => @rev_same q R b ms ms' h g)
  have HSZ := both_sz hq hR
  obtain ⟨r, Hr⟩ := nm (bothF q R)
  rw [Hr.out] at hK HSY HSZ
  rw [Hr.out]
  unfold rlv rlCells
  clear C0 C1
  obtain ⟨W1, HW1⟩ := nm (w2.alloc (.cells (rlCells r a) 51))
  have u1 : Upd Non w2 W1 := by rw [← HW1.out]; exact Upd.refl.alloc _
  have b1 : Blk W1 w2.heap.size 51 (rlCells r a) := by rw [← HW1.out]; exact Blk.new _ _ _
  have s1 : W1.heap.size = w2.heap.size + 1 := by rw [← HW1.out]; simp
  obtain ⟨c0, c1, c2, c3, c4, c5, c6, c7, c8, c9, c10, c11, c12, c13⟩ := rl_cells b1
  obtain ⟨W2, HW2⟩ := nm (W1.alloc (.cells (rlCells r a) 51))
  have u2 : Upd Non W1 W2 := by rw [← HW2.out]; exact Upd.refl.alloc _
  have b2 : Blk W2 (w2.heap.size + 1) 51 (rlCells r a) := by rw [← HW2.out, ← s1]; exact Blk.new _ _ _
  have b1 := b1.upd u2 (fun f => f)
  have e1 := HW1.out
  have e2 := HW2.out
  unfold rlCells at e1 e2
  have HK := Lib.hid ((hK.mono (G := fun k => k < w2.heap.size) (fun k hk _ => hk)).upd (u1.then_non u2) (fun _ _ _ f => f))
  have HU2 := Lib.hid ((hu2.then_non u1).then_non u2)
  have s2 : w.heap.size ≤ w2.heap.size := hu2.size
  have HB1 := Lib.hid b1
  have HB2 := Lib.hid b2
  clear u1 u2 b1 b2 HW1 HW2 hK hu2
  go_upto_region 3 with fail
  clear c0 c1 c2 c3 c4 c5 c6 c7 c8 c9 c10 c11 c12 c13
  obtain ⟨wD, HwD⟩ := nm W2.drew
  have uD : Upd Non W2 wD := by rw [← HwD.out]; exact Upd.refl.drew
  have HK := Lib.hid (HK.out.upd uD (fun _ _ _ f => f))
  have HUD := Lib.hid (HU2.out.then_non uD)
  have b1 : Blk wD w2.heap.size 51 (rlCells r a) := HB1.out.upd uD (fun f => f)
  have b2 : Blk wD (w2.heap.size + 1) 51 (rlCells r a) := HB2.out.upd uD (fun f => f)
  have HB1 := Lib.hid b1
  have HB2 := Lib.hid b2
  have SS : ∀ w', Upd (· = w2.heap.size + 1) wD w' → w'.cell? ⟨w2.heap.size, 1, none⟩ = some (.int .i64 r.l.v) ∧ w'.cell? ⟨w2.heap.size, 2, none⟩ = some (.int .i64 r.l.op) ∧ w'.cell? ⟨w2.heap.size, 3, none⟩ = some (.int .i64 r.l.imm) ∧ w'.cell? ⟨w2.heap.size, 4, none⟩ = some (.int .i64 r.l.iv) ∧ w'.cell? ⟨w2.heap.size, 5, none⟩ = some (.slice a.la r.l.kids.length a.lc) ∧
      w'.cell? ⟨w2.heap.size, 6, none⟩ = some (.int .i64 r.r.v) ∧ w'.cell? ⟨w2.heap.size, 7, none⟩ = some (.int .i64 r.r.op) ∧ w'.cell? ⟨w2.heap.size, 8, none⟩ = some (.int .i64 r.r.imm) ∧ w'.cell? ⟨w2.heap.size, 9, none⟩ = some (.int .i64 r.r.iv) ∧ w'.cell? ⟨w2.heap.size, 10, none⟩ = some (.slice a.ra r.r.kids.length a.rc) := fun w' u => by
    obtain ⟨c0, c1, c2, c3, c4, c5, c6, c7, c8, c9, c10, c11, c12, c13⟩ := rl_cells (b1.upd u (by omega))
    exact ⟨c1, c2, c3, c4, c5, c6, c7, c8, c9, c10⟩
  have HS := Lib.hid SS
  obtain ⟨x0, x1, x2, x3, x4, x5, x6, x7, x8, x9, x10, x11, x12, x13⟩ := rl_cells b2
  have xf := b2.frozen
  clear SS b1 b2 uD
  refine wp_region_held_drew (S := fun w' => w'.cell? ⟨w2.heap.size, 1, none⟩ = some (.int .i64 r.l.v) ∧ w'.cell? ⟨w2.heap.size, 2, none⟩ = some (.int .i64 r.l.op) ∧ w'.cell? ⟨w2.heap.size, 3, none⟩ = some (.int .i64 r.l.imm) ∧ w'.cell? ⟨w2.heap.size, 4, none⟩ = some (.int .i64 r.l.iv) ∧ w'.cell? ⟨w2.heap.size, 5, none⟩ = some (.slice a.la r.l.kids.length a.lc) ∧
      w'.cell? ⟨w2.heap.size, 6, none⟩ = some (.int .i64 r.r.v) ∧ w'.cell? ⟨w2.heap.size, 7, none⟩ = some (.int .i64 r.r.op) ∧ w'.cell? ⟨w2.heap.size, 8, none⟩ = some (.int .i64 r.r.imm) ∧ w'.cell? ⟨w2.heap.size, 9, none⟩ = some (.int .i64 r.r.iv) ∧ w'.cell? ⟨w2.heap.size, 10, none⟩ = some (.slice a.ra r.r.kids.length a.rc)) (by kernel_rfl) (by rw [HwD.out]; exact HS.out _ Upd.refl) (fun hHeld => ?_)
  rw [HwD.out] at hHeld ⊢
  refine wpAnyH_take (i := 0) (v := ?_) rfl (by kernel_rfl) (by kernel_rfl) (by kernel_rfl) (fun _ _ _ h => h) (Or.inl ⟨by rfl, ?_⟩) (by assumption) ?_
  rotate_left
  · intro w hSw; (try dsimp only at hSw); go_simp; try with_reducible rfl
  try simp only [put_y]
  try simp only [Act.put]
  try simp only [put_z]
  refine wpAnyH_take (i := 1) (v := ?_) rfl (by kernel_rfl) (by kernel_rfl) (by kernel_rfl) (fun _ _ _ h => h) (Or.inl ⟨by rfl, ?_⟩) (by assumption) ?_
  rotate_left
  · intro w hSw; (try dsimp only at hSw); go_simp; try with_reducible rfl
  try simp only [put_y]
  try simp only [Act.put]
  try simp only [put_z]
  refine wpAnyH_take (i := 2) (v := ?_) rfl (by kernel_rfl) (by kernel_rfl) (by kernel_rfl) (fun _ _ _ h => h) (Or.inl ⟨by rfl, ?_⟩) (by assumption) ?_
  rotate_left
  · intro w hSw; (try dsimp only at hSw); go_simp; try with_reducible rfl
  try simp only [put_y]
  try simp only [Act.put]
  try simp only [put_z]
  refine wpAnyH_take (i := 3) (v := ?_) rfl (by kernel_rfl) (by kernel_rfl) (by kernel_rfl) (fun _ _ _ h => h) (Or.inl ⟨by rfl, ?_⟩) (by assumption) ?_
  rotate_left
  · intro w hSw; (try dsimp only at hSw); go_simp; try with_reducible rfl
  try simp only [put_y]
  try simp only [Act.put]
  try simp only [put_z]
  refine wpAnyH_take (i := 4) (v := ?_) rfl (by kernel_rfl) (by kernel_rfl) (by kernel_rfl) (fun _ _ _ h => h) (Or.inl ⟨by rfl, ?_⟩) (by assumption) ?_
  rotate_left
  · intro w hSw; (try dsimp only at hSw); go_simp; try with_reducible rfl
  try simp only [put_y]
  try simp only [Act.put]
  try simp only [put_z]
  refine wpAnyH_ready (rs := [5]) (by kernel_rfl) (by simp) ?_
  refine AllReadyH.cons rfl (fun K hK => ?_) AllReadyH.nil
  go_simp
  rw [setLt_eq]
  have v1 := setLt_upd wD (w2.heap.size + 1) (.int .i64 r.r.v) (.int .i64 r.r.op) (.int .i64 r.r.imm) (.int .i64 r.r.iv) (.slice a.ra r.r.kids.length a.rc)
  have b3 := setLt_blk HB2.out (.int .i64 r.r.v) (.int .i64 r.r.op) (.int .i64 r.r.imm) (.int .i64 r.r.iv) (.slice a.ra r.r.kids.length a.rc)
  obtain ⟨w3, Hw3⟩ := nm (setLt wD (w2.heap.size + 1) (.int .i64 r.r.v) (.int .i64 r.r.op) (.int .i64 r.r.imm) (.int .i64 r.r.iv) (.slice a.ra r.r.kids.length a.rc))
  rw [Hw3.out] at v1 b3 ⊢
  clear x0 x1 x2 x3 x4 x5 x6 x7 x8 x9 x10 x11 x12 x13 xf
  refine hK.out _ _ ?_ (fun hHeld => ?_)
  · exact HS.out _ v1
  clear hK K
  try simp only [put_y]
  try simp only [Act.put]
  try simp only [put_z]
  have x6 := b3.cell 6
  have x7 := b3.cell 7
  have x8 := b3.cell 8
  have x9 := b3.cell 9
  have x10 := b3.cell 10
  have xf := b3.frozen
  have HB3 := Lib.hid b3
  clear b3
  refine wpAnyH_take (i := 6) (v := ?_) rfl (by kernel_rfl) (by kernel_rfl) (by kernel_rfl) (fun _ _ _ h => h) (Or.inl ⟨by rfl, ?_⟩) (by assumption) ?_
  rotate_left
  · intro w hSw; (try dsimp only at hSw); go_simp; try with_reducible rfl
  try simp only [put_y]
  try simp only [Act.put]
  try simp only [put_z]
  refine wpAnyH_ready (rs := [7]) (by kernel_rfl) (by simp) ?_
  refine AllReadyH.cons rfl (fun K hK => ?_) AllReadyH.nil
  go_simp
  rw [setRt_eq]
  have v2 := setRt_upd w3 (w2.heap.size + 1) (.int .i64 r.l.v) (.int .i64 r.l.op) (.int .i64 r.l.imm) (.int .i64 r.l.iv) (.slice a.la r.l.kids.length a.lc)
  have b4 := setRt_blk HB3.out (.int .i64 r.l.v) (.int .i64 r.l.op) (.int .i64 r.l.imm) (.int .i64 r.l.iv) (.slice a.la r.l.kids.length a.lc)
  obtain ⟨w4, Hw4⟩ := nm (setRt w3 (w2.heap.size + 1) (.int .i64 r.l.v) (.int .i64 r.l.op) (.int .i64 r.l.imm) (.int .i64 r.l.iv) (.slice a.la r.l.kids.length a.lc))
  rw [Hw4.out] at v2 b4 ⊢
  clear x6 x7 x8 x9 x10 xf HB3
  have v3 := v1.trans v2 (fun _ _ h => h)
  refine hK.out _ _ ?_ (fun hHeld => ?_)
  · exact HS.out _ v3
  clear hK K
  try simp only [put_y]
  try simp only [Act.put]
  try simp only [put_z]
  refine wpAnyH_done (by kernel_rfl) ?_ _
  clear hHeld HS v1 v2 Hw3 Hw4
  have b1 := HB1.out.upd v3 (by omega)
  have b2 : Blk w4 (w2.heap.size + 1) 51 (rlCells (revF r) ⟨a.ra, a.rc, a.la, a.lc, a.ca, a.cc⟩) := b4
  have HK1 := Lib.hid (HK.out.upd v3 (fun k hk h => by omega))
  obtain ⟨s, Hs⟩ : ∃ s : Rl, Hid (s = revF r) := ⟨_, rfl⟩
  obtain ⟨q1, q2, q3, q4, q5, q6⟩ : s.name = r.name ∧ s.l = r.r ∧ s.r = r.l ∧ s.conds = r.conds ∧ s.vars = r.vars ∧ s.imms = r.imms := by rw [Hs.out]; exact ⟨rfl, rfl, rfl, rfl, rfl, rfl⟩
  have hks : RlK w4 (fun k => k < w2.heap.size) s ⟨a.ra, a.rc, a.la, a.lc, a.ca, a.cc⟩ := ⟨by rw [q2]; exact HK1.out.r, by rw [q3]; exact HK1.out.l, by rw [q4]; exact HK1.out.c, by rw [q4]; exact HK1.out.le⟩
  have hss : RlSz s := ⟨by rw [q2]; exact HSZ.r, by rw [q3]; exact HSZ.l, by rw [q4]; exact HSZ.c, by rw [q1]; exact HSZ.n⟩
  have C2 := Lib.hid (pProve_c r a _ w4 HK1.out HSZ)
  have C3 := Lib.hid (fun w' (u : Upd Non w4 w') => pProve_c s ⟨a.ra, a.rc, a.la, a.lc, a.ca, a.cc⟩ _ w' (hks.upd u (fun _ _ _ f => f)) hss)
  have C4 := Lib.hid (fun w' (u : Upd Non w4 w') => r18Polynomial_c s ⟨a.ra, a.rc, a.la, a.lc, a.ca, a.cc⟩ _ w' (hks.upd u (fun _ _ _ f => f)) hss)
  rw [← Hs.out] at HSY b2
  unfold rlv rlCells at C2 C3 C4
  have HU4 := Lib.hid (HUD.out.trans v3 (fun k hk h => by omega) : Upd Non w w4)
  have HB1 := Lib.hid b1
  have HB2 := Lib.hid b2
  obtain ⟨c0, c1, c2, c3, c4, c5, c6, c7, c8, c9, c10, c11, c12, c13⟩ := rl_cells b1
  clear hks hss HSZ v3 HUD HU2 HK HK1 q1 q2 q3 q4 q5 q6 b1 b2
  go_wp2_with fail
  refine C2.out.mono ?_
  rintro e w5 ⟨ms1, A1, d1, t1, rfl, hm1, hv1, hu5⟩
  obtain ⟨c0, c1, c2, c3, c4, c5, c6, c7, c8, c9, c10, c11, c12, c13⟩ := rl_cells (HB2.out.upd hu5 (fun f => f))
  have HM1 := Lib.hid hm1
  clear C2 hm1 HB1
  go_wp2_with fail
  refine (C3.out _ hu5).mono ?_
  rintro e w6 ⟨ms2, A2, d2, t2, rfl, hm2, hv2, hu6⟩
  have hu46 := hu5.then_non hu6
  obtain ⟨c0, c1, c2, c3, c4, c5, c6, c7, c8, c9, c10, c11, c12, c13⟩ := rl_cells (HB2.out.upd hu46 (fun f => f))
  have HM2 := Lib.hid hm2
  clear C3 hm2
  go_wp2_with fail
  refine (C4.out _ hu46).mono ?_
  rintro e w7 ⟨ms3, A3, d3, t3, rfl, hm3, -, hu7⟩
  obtain ⟨rfl, -⟩ := MsIs.same HM2.out hm3
  have HM3 := Lib.hid hm3
  obtain ⟨n3, Hn3⟩ := nm ms3.length
  rw [Hn3.out]
  have hU7 := HU4.out.then_non (hu46.then_non hu7)
  have C8 := Lib.hid (fun w' => poExamples_c w')
  clear C4 hm3 HB2 c0 c1 c2 c3 c4 c5 c6 c7 c8 c9 c10 c11 c12 c13
  cases t2 with
  | false =>
    obtain rfl : ms2 = [] := HM2.out.2.1 rfl
    clear hv1 hv2
    go_wp2_with fail
    refine (C8.out _).mono ?_
    rintro e w8 ⟨rfl, hu8⟩
    go_wp2_with fail
    go_ret
    exact ⟨rfl, hU7.then_non hu8⟩
  | true =>
    obtain ⟨rfl, rfl⟩ := HSY.out _ _ _ HM1.out HM2.out
    have hsm := HM1.out.small
    have C7 := Lib.hid (samePoly_c w7 _ _ A1 A2 d1 d2 ms1 ms1 ((hv1.upd hu6 (fun _ _ _ f => f)).upd hu7 (fun _ _ _ f => f)) (hv2.upd hu7 (fun _ _ _ f => f)) hsm.2 hsm.1)
    rw [show decide (ms1 = ms1) = true from decide_eq_true rfl] at C7
    obtain ⟨n1, Hn1⟩ := nm ms1.length
    rw [Hn1.out] at C7
    rw [Hn1.out]
    clear hv1 hv2 hsm
    go_wp2_with fail
    refine C7.out.mono ?_
    rintro e w8 ⟨rfl, hu8⟩
    go_wp2_with fail
    refine (C8.out _).mono ?_
    rintro e w9 ⟨rfl, hu9⟩
    go_wp2_with fail
    go_ret
    exact ⟨rfl, (hU7.then_non hu8).then_non hu9⟩
end Go.Proofs.Ytnefhokojbkppaa
