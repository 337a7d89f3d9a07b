/-
  What both of chapter 18 does: it makes a rule of two patterns of sums and products.
-/
import Derived.Test.YtnefhokojbkppaaSymP
import Derived.Test.YtnefhokojbkppaaKPtC
namespace Go.Proofs.Ytnefhokojbkppaa
open Go.RowKit

set_option maxRecDepth 100000 in
set_option maxHeartbeats 1600000 in
theorem both_c (w : World) (F G : Nat → Prop) (A B : Option Addr) (c d : Nat) (xs ys : List Int) (n : Nat) (h1 : 1 ≤ n) (h2 : n ≤ 1000) (hx : Ints w F A xs) (hc : xs.length ≤ c) (hI : ∀ x ∈ xs, I64 x) (hn : xs.length ≤ 100000000000000)
    (hy : Ints w G B ys) (hd : ys.length ≤ d) (hJ : ∀ x ∈ ys, I64 x) (hm : ys.length ≤ 100000000000000) :
    Calls Try.prog 21 #[.slice A xs.length c, .slice B ys.length d, .int .i64 n] w fun e w' => ∃ (q R : Pt) (a : RlA), e = .returned (rlv (bothF q R) a) ∧ q.size ≤ 62 ∧ R.size ≤ 200 ∧ RlK w' (fun k => w.heap.size ≤ k) (bothF q R) a ∧ Upd Non w w' := by
  have hy0 := hy.mono (G := (· < w.heap.size)) (fun k hk _ => hk)
  obtain ⟨W, HW⟩ := nm (w.alloc (.cells #[.string ⟨#[]⟩, .int .i64 0, .int .i64 0, .int .i64 0, .int .i64 0, .slice none 0 0, .int .i64 0, .int .i64 0, .int .i64 0, .int .i64 0, .slice none 0 0, .slice none 0 0, .int .i64 0, .int .i64 0] 51))
  have hU : Upd Non w W := by rw [← HW.out]; exact Upd.refl.alloc _
  have hb : Blk W w.heap.size 51 #[.string ⟨#[]⟩, .int .i64 0, .int .i64 0, .int .i64 0, .int .i64 0, .slice none 0 0, .int .i64 0, .int .i64 0, .int .i64 0, .int .i64 0, .slice none 0 0, .slice none 0 0, .int .i64 0, .int .i64 0] := by rw [← HW.out]; exact Blk.new _ _ _
  have hsW : W.heap.size = w.heap.size + 1 := by rw [← HW.out]; simp
  have e0 := HW.out
  have hyW := hy0.upd hU (fun _ _ _ f => f)
  have C1 := Lib.hid (pattern_c W _ A c xs n h1 h2 (hx.upd hU (fun _ _ _ f => f)) hc hI hn)
  have C4 := Lib.hid (fun (w' : World) (u : Upd (fun k => w.heap.size < k) W w') (k : Nat) (g1 : 1 ≤ k) (g2 : k ≤ 1000) => pattern_c w' _ B d ys k g1 g2 (hyW.upd u (fun k _ h1 h2 => by omega)) hd hJ hm)
  obtain ⟨l, Hl⟩ := nm xs.length
  obtain ⟨m, Hm⟩ := nm ys.length
  rw [Hl.out] at C1
  rw [Hm.out] at C4 hm
  rw [Hl.out, Hm.out]
  clear hx hy hc hd hI hJ hn hy0 hyW HW
  go_enter Try.func21, Try.ntmps21
  go_wp2_with fail
  refine C1.out.mono ?_
  rintro e w2 ⟨q0, K1, k1, rfl, -, hqs, hp2, hu2⟩
  have C3 := Lib.hid (Numbered_c q0 w2 _ K1 k1 hp2 (by omega))
  have hb2 := hb.upd hu2 (fun f => f)
  have hls := numF_len q0 [] []
  simp only [List.length_nil, Nat.zero_add] at hls
  clear C1 hb e0
  go_wp2_with fail
  refine C3.out.mono ?_
  rintro e w4 ⟨K2, k2, rfl, hp4, hu4⟩
  have HB0 : Hid (∀ Q, bothF q0 Q = ⟨⟨#[114]⟩, sideF 20 (numF q0 [] []).1, Q, [], (numF q0 [] []).2.1.length, 0⟩) := fun _ => rfl
  obtain ⟨R, HR⟩ := nm (numF q0 [] [])
  rw [HR.out] at hp4 hls HB0 ⊢
  obtain ⟨q, Hq⟩ := nm R.1
  obtain ⟨nv, Hnv⟩ := nm R.2.1.length
  obtain ⟨ni, Hni⟩ := nm R.2.2.length
  rw [Hq.out] at hp4 hls HB0 ⊢
  rw [Hnv.out] at hls HB0 ⊢
  rw [Hni.out]
  have hnv : nv ≤ 62 := by omega
  have hqsz : q.size ≤ 62 := by omega
  have hb4 := hb2.upd hu4 (fun f => f)
  have s2 := hu2.size
  have s4 := hu4.size
  have hU4 : Upd Non W w4 := hu2.then_non hu4
  have hp4 := PtK.mono (G := fun k => w.heap.size < k ∧ k < w4.heap.size) (fun k hk h => by omega) _ _ _ hp4
  clear C3 hls hp2 hb2
  unfold pv
  go_upto_region 2 with fail
  obtain ⟨w5, Hw5⟩ := nm (w4.alloc (.cells #[.int .i64 q.v, .int .i64 q.op, .int .i64 q.imm, .int .i64 q.iv, .slice K2 q.kids.length k2] 24))
  have u5 : Upd Non w4 w5 := by rw [← Hw5.out]; exact Upd.refl.alloc _
  have b5 : Blk w5 w4.heap.size 24 #[.int .i64 q.v, .int .i64 q.op, .int .i64 q.imm, .int .i64 q.iv, .slice K2 q.kids.length k2] := by rw [← Hw5.out]; exact Blk.new _ _ _
  have s5 : w5.heap.size = w4.heap.size + 1 := by rw [← Hw5.out]; simp
  have hp5 : PtK w5 (fun k => w.heap.size < k ∧ k < w4.heap.size) q K2 k2 := PtK.upd u5 (fun _ _ _ f => f) _ _ _ hp4
  have hb5 := hb4.upd u5 (fun f => f)
  have hU5 := hU4.then_non u5
  rw [Hw5.out]
  clear hp4 hb4 hU4 u5 Hw5
  have HU5 := Lib.hid hU5
  have HB5 := Lib.hid hb5
  have HP5 := Lib.hid hp5
  have Hb5 := Lib.hid b5
  have c0 := b5.cell 0
  have c1 := b5.cell 1
  have c2 := b5.cell 2
  have c3 := b5.cell 3
  have c4 := b5.cell 4
  have f5 := b5.frozen
  clear hU5 hb5 hp5 b5
  obtain ⟨v, Hv⟩ := nm q.v
  rw [Hv.out] at c0 ⊢
  go_upto_if 21 with fail
  go_cut [] (fun wx => ∃ KL kl, Blk wx w4.heap.size 24 #[.int .i64 (sideF 20 q).v, .int .i64 (sideF 20 q).op, .int .i64 (sideF 20 q).imm, .int .i64 (sideF 20 q).iv, .slice KL (sideF 20 q).kids.length kl] ∧ PtK wx (fun k => w.heap.size < k ∧ k ≠ w4.heap.size) (sideF 20 q) KL kl ∧ Upd (· = w4.heap.size) w5 wx)
  case first =>
    by_cases hv : 0 < q.v
    · have e : sideF 20 q = .mk 0 20 0 0 [q] := if_pos hv
      have hv' : 0 < v := by rw [← Hv.out]; exact hv
      have tv : decide (0 < v) = true := decide_eq_true hv'
      go_wp2_with fail
      go_meet
      case rel =>
        rw [set5_eq, e]
        have b := Hb5.out
        rw [Hv.out] at b
        have us := set5_upd w5 w4.heap.size (.int .i64 0) (.int .i64 20) (.int .i64 0) (.int .i64 0) (.slice (some ⟨w4.heap.size + 1, 0, none⟩) 1 1)
        have bs := set5_blk b (.int .i64 0) (.int .i64 20) (.int .i64 0) (.int .i64 0) (.slice (some ⟨w4.heap.size + 1, 0, none⟩) 1 1)
        have hs := us.size
        obtain ⟨wA, HwA⟩ := nm (set5 w5 w4.heap.size (.int .i64 0) (.int .i64 20) (.int .i64 0) (.int .i64 0) (.slice (some ⟨w4.heap.size + 1, 0, none⟩) 1 1))
        have hsA : wA.heap.size = w4.heap.size + 1 := by rw [← HwA.out, ← s5]; simp [set5]
        rw [HwA.out] at us bs ⊢
        have ua : Upd Non wA (wA.alloc (.cells #[.int .i64 v, .int .i64 q.op, .int .i64 q.imm, .int .i64 q.iv, .slice K2 q.kids.length k2] 24)) := Upd.refl.alloc _
        have ba := Blk.new wA 24 #[.int .i64 v, .int .i64 q.op, .int .i64 q.imm, .int .i64 q.iv, .slice K2 q.kids.length k2]
        rw [hsA, ← Hv.out] at ba
        rw [← Hv.out] at ua ⊢
        refine ⟨some ⟨w4.heap.size + 1, 0, none⟩, 1, bs.upd ua (fun f => f), ?_, us.then_non ua⟩
        exact PtK.one _ _ _ _ ba (PtK.upd ua (fun _ _ _ f => f) _ _ _ (PtK.upd us (fun k hk h => by omega) _ _ _ (PtK.mono (fun k _ h => by omega) _ _ _ HP5.out))) (by omega) (by omega)
    · have e : sideF 20 q = q := if_neg hv
      have hv' : ¬ 0 < v := by rw [← Hv.out]; exact hv
      have tv : decide (0 < v) = false := decide_eq_false hv'
      go_wp2_with fail
      go_meet
      case rel => rw [e]; exact ⟨K2, k2, Hb5.out, PtK.mono (fun k _ h => by omega) _ _ _ HP5.out, Upd.refl⟩
  case rest =>
    obtain ⟨w6, rfl⟩ : ∃ w6 : World, w6 = wc := ⟨_, rfl⟩
    obtain ⟨KL, kl, b6, hp6, u6⟩ := hcut
    have hLs : (sideF 20 q).size ≤ 63 := by
      unfold sideF
      split
      · rw [Pt.size_one]; omega
      · omega
    obtain ⟨L, HL⟩ := nm (sideF 20 q)
    rw [HL.out] at b6 hp6 hLs HB0
    have s6 := u6.size
    have hb6 := HB5.out.upd u6 (by omega)
    have hU6 : Upd (fun k => k = w4.heap.size) W w6 := (HU5.out.mono (fun _ _ h => h.elim)).trans u6 (fun _ _ h => h)
    clear HB5 HU5 HP5 Hb5 c0 c1 c2 c3 c4 f5
    have c0 := b6.cell 0
    have c1 := b6.cell 1
    have c2 := b6.cell 2
    have c3 := b6.cell 3
    have c4 := b6.cell 4
    have f6 := b6.frozen
    go_upto_region 5 with fail
    clear c0 c1 c2 c3 c4 f6 b6
    obtain ⟨w7, Hw7⟩ := nm (w6.alloc (.cells #[.string ⟨#[114]⟩, .int .i64 L.v, .int .i64 L.op, .int .i64 L.imm, .int .i64 L.iv, .slice KL L.kids.length kl, .int .i64 L.v, .int .i64 L.op, .int .i64 L.imm, .int .i64 L.iv, .slice KL L.kids.length kl, .slice none 0 0, .int .i64 nv, .int .i64 0] 51))
    have u7 : Upd Non w6 w7 := by rw [← Hw7.out]; exact Upd.refl.alloc _
    have b7 : Blk w7 w6.heap.size 51 #[.string ⟨#[114]⟩, .int .i64 L.v, .int .i64 L.op, .int .i64 L.imm, .int .i64 L.iv, .slice KL L.kids.length kl, .int .i64 L.v, .int .i64 L.op, .int .i64 L.imm, .int .i64 L.iv, .slice KL L.kids.length kl, .slice none 0 0, .int .i64 nv, .int .i64 0] := by rw [← Hw7.out]; exact Blk.new _ _ _
    have s7 : w7.heap.size = w6.heap.size + 1 := by rw [← Hw7.out]; simp
    rw [Hw7.out]
    have hb7 := hb6.upd u7 (fun f => f)
    have hU7 := hU6.then_non u7
    have hp7 := PtK.upd u7 (fun _ _ _ f => f) _ _ _ (PtK.mono (G := fun k => w.heap.size < k ∧ k ≠ w4.heap.size ∧ k < w6.heap.size) (fun k hk h => by omega) _ _ _ hp6)
    clear hb6 hU6 hp6 u7 Hw7
    have HU := Lib.hid hU
    have HU7 := Lib.hid hU7
    obtain ⟨r2, hma, -, hmc, hmd⟩ := m2_facts m
    have HBF := HB0
    by_cases hcond : 0 < nv ∧ r2 = 0
    · obtain ⟨g1, rfl⟩ := hcond
      have tn : decide ((0 : Int) < (nv : Int)) = true := by simp; omega
      have hma' : (m : Int).tmod 2 = 0 := hma
      have C5 := Lib.hid (C4.out w7 (hU7.mono (fun k hk h => by omega)) nv (by omega) (by omega))
      clear C4 hma HB0 hU7
      go_wp2_with fail
      refine C5.out.mono ?_
      rintro e w8 ⟨Q, KR, kr, rfl, -, hQs, hp8, hu8⟩
      have hb8 := hb7.upd hu8 (fun f => f)
      have b8 := b7.upd hu8 (fun f => f)
      have s8 := hu8.size
      have hpz := PtK.upd hu8 (fun _ _ _ f => f) _ _ _ hp7
      clear b7 hb7 C5 hp7
      have r6 := b8.cell 6
      have r7 := b8.cell 7
      have r8 := b8.cell 8
      have r9 := b8.cell 9
      have r10 := b8.cell 10
      have rf := b8.frozen
      unfold pv
      go_upto_region 7 with fail
      rw [setRt_eq]
      have u9 := setRt_upd w8 w6.heap.size (.int .i64 Q.v) (.int .i64 Q.op) (.int .i64 Q.imm) (.int .i64 Q.iv) (.slice KR Q.kids.length kr)
      have bz := setRt_blk b8 (.int .i64 Q.v) (.int .i64 Q.op) (.int .i64 Q.imm) (.int .i64 Q.iv) (.slice KR Q.kids.length kr)
      have hz := hb8.upd u9 (by omega)
      obtain ⟨wz, Hwz⟩ := nm (setRt w8 w6.heap.size (.int .i64 Q.v) (.int .i64 Q.op) (.int .i64 Q.imm) (.int .i64 Q.iv) (.slice KR Q.kids.length kr))
      rw [Hwz.out] at u9 bz hz ⊢
      have s9 := u9.size
      have hpL := PtK.upd u9 (fun k hk h => by omega) _ _ _ hpz
      have hpR := PtK.upd u9 (fun k hk h => by omega) _ _ _ hp8
      have hU7 := HU7.out
      have hUz : Upd (fun k => k = w4.heap.size ∨ k = w6.heap.size) W wz := ((hU7.mono (fun _ _ h => .inl h)).then_non hu8).trans u9 (fun _ _ h => .inr h)
      have hU := HU.out
      clear r6 r7 r8 r9 r10 rf b8 hb8 hpz hp8 u9 Hwz
      have r0 := bz.cell 0
      have r1 := bz.cell 1
      have r2 := bz.cell 2
      have r3 := bz.cell 3
      have r4 := bz.cell 4
      have r5 := bz.cell 5
      have r6 := bz.cell 6
      have r7 := bz.cell 7
      have r8 := bz.cell 8
      have r9 := bz.cell 9
      have r10 := bz.cell 10
      have r11 := bz.cell 11
      have r12 := bz.cell 12
      have r13 := bz.cell 13
      have z0 := hz.cell 0
      have z1 := hz.cell 1
      have z2 := hz.cell 2
      have z3 := hz.cell 3
      have z4 := hz.cell 4
      have z5 := hz.cell 5
      have z6 := hz.cell 6
      have z7 := hz.cell 7
      have z8 := hz.cell 8
      have z9 := hz.cell 9
      have z10 := hz.cell 10
      have z11 := hz.cell 11
      have z12 := hz.cell 12
      have z13 := hz.cell 13
      have rf := bz.frozen
      have zf := hz.frozen
      have HZ := Lib.hid hz
      clear hz bz
      go_wp2_with fail
      rw [set14_eq]
      refine bodyPost_ret (results_cell_row rfl _ _ w.heap.size 51 _ (0, 0) _ rfl (set14_blk HZ.out _ _ _ _ _ _ _ _ _ _ _ _ _ _) Try.underlying51 rfl (by kernel_rfl)) rfl ?_
      have uE := set14_upd wz w.heap.size (.string ⟨#[114]⟩) (.int .i64 L.v) (.int .i64 L.op) (.int .i64 L.imm) (.int .i64 L.iv) (.slice KL L.kids.length kl) (.int .i64 Q.v) (.int .i64 Q.op) (.int .i64 Q.imm) (.int .i64 Q.iv) (.slice KR Q.kids.length kr) (.slice none 0 0) (.int .i64 nv) (.int .i64 0)
      refine ⟨q0, Q, ⟨KL, kl, KR, kr, none, 0⟩, by rw [HBF.out]; rfl, hqs, by omega, by rw [HBF.out]; exact ⟨PtK.mono (fun k hk h => by omega) _ _ _ (PtK.upd uE (fun k hk h => by omega) _ _ _ hpL), PtK.mono (fun k hk h => by omega) _ _ _ (PtK.upd uE (fun k hk h => by omega) _ _ _ hpR), CondsV.nil, by simp⟩, ?_⟩
      exact (hU.trans hUz (fun k hk h => by omega)).trans uE (fun k hk h => by omega)
    · have hU := HU.out
      have hUz := HU7.out
      have hpL := hp7
      have hpR := hp7
      have bz := b7
      have hz := hb7
      obtain ⟨wz, rfl⟩ : ∃ wz : World, wz = w7 := ⟨_, rfl⟩
      clear C4 b7 hb7 hp7 HB0
      by_cases g0 : 0 < nv
      · have tn : decide ((0 : Int) < (nv : Int)) = true := by simp; omega
        have t2 : ((r2 : Int) == 0) = false := by simp; omega
        go_upto_region 7 with fail
        clear hma hcond
        have r0 := bz.cell 0
        have r1 := bz.cell 1
        have r2 := bz.cell 2
        have r3 := bz.cell 3
        have r4 := bz.cell 4
        have r5 := bz.cell 5
        have r6 := bz.cell 6
        have r7 := bz.cell 7
        have r8 := bz.cell 8
        have r9 := bz.cell 9
        have r10 := bz.cell 10
        have r11 := bz.cell 11
        have r12 := bz.cell 12
        have r13 := bz.cell 13
        have z0 := hz.cell 0
        have z1 := hz.cell 1
        have z2 := hz.cell 2
        have z3 := hz.cell 3
        have z4 := hz.cell 4
        have z5 := hz.cell 5
        have z6 := hz.cell 6
        have z7 := hz.cell 7
        have z8 := hz.cell 8
        have z9 := hz.cell 9
        have z10 := hz.cell 10
        have z11 := hz.cell 11
        have z12 := hz.cell 12
        have z13 := hz.cell 13
        have rf := bz.frozen
        have zf := hz.frozen
        have HZ := Lib.hid hz
        clear hz bz
        go_wp2_with fail
        rw [set14_eq]
        refine bodyPost_ret (results_cell_row rfl _ _ w.heap.size 51 _ (0, 0) _ rfl (set14_blk HZ.out _ _ _ _ _ _ _ _ _ _ _ _ _ _) Try.underlying51 rfl (by kernel_rfl)) rfl ?_
        have uE := set14_upd wz w.heap.size (.string ⟨#[114]⟩) (.int .i64 L.v) (.int .i64 L.op) (.int .i64 L.imm) (.int .i64 L.iv) (.slice KL L.kids.length kl) (.int .i64 L.v) (.int .i64 L.op) (.int .i64 L.imm) (.int .i64 L.iv) (.slice KL L.kids.length kl) (.slice none 0 0) (.int .i64 nv) (.int .i64 0)
        refine ⟨q0, L, ⟨KL, kl, KL, kl, none, 0⟩, by rw [HBF.out]; rfl, hqs, by omega, by rw [HBF.out]; exact ⟨PtK.mono (fun k hk h => by omega) _ _ _ (PtK.upd uE (fun k hk h => by omega) _ _ _ hpL), PtK.mono (fun k hk h => by omega) _ _ _ (PtK.upd uE (fun k hk h => by omega) _ _ _ hpR), CondsV.nil, by simp⟩, ?_⟩
        exact (hU.trans hUz (fun k hk h => by omega)).trans uE (fun k hk h => by omega)
      · have tn : decide ((0 : Int) < (nv : Int)) = false := by simp; omega
        go_upto_region 7 with fail
        clear hma hcond
        have r0 := bz.cell 0
        have r1 := bz.cell 1
        have r2 := bz.cell 2
        have r3 := bz.cell 3
        have r4 := bz.cell 4
        have r5 := bz.cell 5
        have r6 := bz.cell 6
        have r7 := bz.cell 7
        have r8 := bz.cell 8
        have r9 := bz.cell 9
        have r10 := bz.cell 10
        have r11 := bz.cell 11
        have r12 := bz.cell 12
        have r13 := bz.cell 13
        have z0 := hz.cell 0
        have z1 := hz.cell 1
        have z2 := hz.cell 2
        have z3 := hz.cell 3
        have z4 := hz.cell 4
        have z5 := hz.cell 5
        have z6 := hz.cell 6
        have z7 := hz.cell 7
        have z8 := hz.cell 8
        have z9 := hz.cell 9
        have z10 := hz.cell 10
        have z11 := hz.cell 11
        have z12 := hz.cell 12
        have z13 := hz.cell 13
        have rf := bz.frozen
        have zf := hz.frozen
        have HZ := Lib.hid hz
        clear hz bz
        go_wp2_with fail
        rw [set14_eq]
        refine bodyPost_ret (results_cell_row rfl _ _ w.heap.size 51 _ (0, 0) _ rfl (set14_blk HZ.out _ _ _ _ _ _ _ _ _ _ _ _ _ _) Try.underlying51 rfl (by kernel_rfl)) rfl ?_
        have uE := set14_upd wz w.heap.size (.string ⟨#[114]⟩) (.int .i64 L.v) (.int .i64 L.op) (.int .i64 L.imm) (.int .i64 L.iv) (.slice KL L.kids.length kl) (.int .i64 L.v) (.int .i64 L.op) (.int .i64 L.imm) (.int .i64 L.iv) (.slice KL L.kids.length kl) (.slice none 0 0) (.int .i64 nv) (.int .i64 0)
        refine ⟨q0, L, ⟨KL, kl, KL, kl, none, 0⟩, by rw [HBF.out]; rfl, hqs, by omega, by rw [HBF.out]; exact ⟨PtK.mono (fun k hk h => by omega) _ _ _ (PtK.upd uE (fun k hk h => by omega) _ _ _ hpL), PtK.mono (fun k hk h => by omega) _ _ _ (PtK.upd uE (fun k hk h => by omega) _ _ _ hpR), CondsV.nil, by simp⟩, ?_⟩
        exact (hU.trans hUz (fun k hk h => by omega)).trans uE (fun k hk h => by omega)
end Go.Proofs.Ytnefhokojbkppaa
