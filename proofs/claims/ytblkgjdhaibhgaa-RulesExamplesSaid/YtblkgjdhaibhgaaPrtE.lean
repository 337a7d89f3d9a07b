/-
  The printer of conditions walked.
-/
import Derived.Test.YtblkgjdhaibhgaaPrtD
import Derived.Test.YtblkgjdhaibhgaaCndC
namespace Go.Proofs.Ytblkgjdhaibhgaa
open Go.RowKit

structure CdFm (c : Cd) : Prop where
  k0 : 1 ≤ c.kind
  k1 : c.kind ≤ 6
  a0 : 0 < c.a
  a1 : c.a ≤ 100
  b0 : 4 ≤ c.kind → 0 < c.b
  b1 : 4 ≤ c.kind → c.b ≤ 100
  n0 : -9223372036854775808 ≤ c.n
  n1 : c.n ≤ 9223372036854775807
theorem fmtC_len {c : Cd} (h : CdFm c) : (fmtC c).length ≤ 40 := by
  have e1 := condNm_len c.kind
  have e2 := textF_len ⟨h.n0, h.n1⟩
  unfold fmtC
  simp only [List.length_append, List.length_singleton]
  have : (if c.kind = 1 then vnF c.a else if c.kind = 4 then vnF c.a ++ [32] ++ vnF c.b else if c.kind = 5 then vnF c.a ++ [32] ++ inF c.b else if c.kind = 6 then inF c.a ++ [32] ++ inF c.b else vnF c.a ++ [32] ++ textF c.n).length ≤ 24 := by
    repeat' split
    all_goals simp [vnF, inF]
    all_goals omega
  omega
theorem catF {a b c : Bs} : (kstr a ++ kstr b ++ ({ data := #[32] } : ByteArray)) ++ kstr c = kstr (a ++ (b ++ [32] ++ c)) := by
  rw [show ({ data := #[32] } : ByteArray) = kstr [32] from rfl, kstr_app, kstr_app, kstr_app]
  simp
set_option maxRecDepth 100000 in
set_option maxHeartbeats 2000000 in
theorem rFormatCond_c (c : Cd) (h : CdFm c) (w : World) : Calls Try.prog 22 #[.agg #[.int .i64 c.kind, .int .i64 c.a, .int .i64 c.b, .int .i64 c.n]] w fun e w' => e = .returned (.string (kstr (fmtC c))) ∧ Upd Non w w' := by
  obtain ⟨W, HW⟩ := nm (w.alloc (.cells #[.int .i64 c.kind, .int .i64 c.a, .int .i64 c.b, .int .i64 c.n] 66))
  have hU : Upd Non w W := by rw [← HW.out]; exact Upd.refl.alloc _
  have hb : Blk W w.heap.size 66 #[.int .i64 c.kind, .int .i64 c.a, .int .i64 c.b, .int .i64 c.n] := by rw [← HW.out]; exact Blk.new _ _ _
  have e0 := HW.out
  have HU := Lib.hid hU
  have HB := Lib.hid hb
  have H := Lib.hid h
  have c0 := hb.cell 0
  have C := Lib.hid (fun W => condNames_c W)
  have hk0 := h.k0
  have hk1 := h.k1
  have HF : Hid (fmtC c = (condNm c.kind ++ [32]) ++ (if c.kind = 1 then vnF c.a else if c.kind = 4 then vnF c.a ++ [32] ++ vnF c.b else if c.kind = 5 then vnF c.a ++ [32] ++ inF c.b else if c.kind = 6 then inF c.a ++ [32] ++ inF c.b else vnF c.a ++ [32] ++ textF c.n)) := rfl
  obtain ⟨res, Hres⟩ := nm (fmtC c)
  rw [Hres.out] at HF ⊢
  have hzn : (kstr (condNm c.kind)).size ≤ 7 := ksz (condNm_len _)
  have hz3 : (kstr (condNm c.kind ++ [32])).size ≤ 8 := ksz (by have := condNm_len c.kind; simp; omega)
  have h3 : kstr (condNm c.kind) ++ ({ data := #[32] } : ByteArray) = kstr (condNm c.kind ++ [32]) := kstr_app _ [32]
  obtain ⟨j, hj⟩ : ∃ j : Nat, c.kind = 1 + j := ⟨(c.kind - 1).toNat, by omega⟩
  have hj6 : j < 6 := by omega
  have hjl : j < condL.length := hj6
  have HN : Hid (condNm c.kind = condL[j]) := by
    show _ = _
    unfold condNm
    rw [show (c.kind - 1).toNat = j by omega, List.getD, List.getElem?_eq_getElem hjl, Option.getD_some]
  have tj : 1 + (j : Int) - 1 = (j : Int) := by omega
  have hwj : IntKind.i64.wrap (j : Int) = (j : Int) := by
    simp [IntKind.wrap, IntKind.bits, IntKind.signed]
    omega
  have hlt6 : (j : Int) < 6 := by omega
  have HJ := Lib.hid hj
  obtain ⟨ns, Hns⟩ := nm (kstr (condNm c.kind))
  obtain ⟨s3, Hs3⟩ := nm (kstr (condNm c.kind ++ [32]))
  rw [Hns.out] at hzn h3
  rw [Hs3.out] at hz3 h3
  rw [hj] at c0 e0
  rw [hj]
  clear hU hb h hj hk0 hk1
  go_enter Try.func22, Try.ntmps22
  go_upto_region 1 with fail
  go_cut [3] (fun s wx => s = .string s3 ∧ Upd Non W wx)
  case first =>
    obtain ⟨wD, HwD⟩ := nm W.drew
    have uD : Upd Non W wD := by rw [← HwD.out]; exact Upd.refl.drew
    refine wp_region_held_drew (S := fun w' => w'.cell? ⟨w.heap.size, 0, none⟩ = some (.int .i64 (1 + (j : Int)))) (by kernel_rfl) (by rw [HwD.out]; exact cell_upd c0 uD (fun f => f)) (fun hHeld => ?_)
    rw [HwD.out] at hHeld ⊢
    have hq1 : ¬ (9223372036854775807 < ns.size + 1) := by omega
    refine wpAnyH_take (i := 1) (v := ?_) rfl (by kernel_rfl) (by kernel_rfl) (by kernel_rfl) (fun _ _ _ h => h) (Or.inl ⟨by rfl, ?_⟩) (by assumption) ?_
    rotate_left
    · intro w hSw; (try dsimp only at hSw); go_simp; try with_reducible rfl
    try simp only [put_y]
    try simp only [Act.put]
    try simp only [put_z]
    refine wpAnyH_take (i := 2) (v := ?_) rfl (by kernel_rfl) (by kernel_rfl) (by kernel_rfl) (fun _ _ _ h => h) (Or.inl ⟨by rfl, ?_⟩) (by assumption) ?_
    rotate_left
    · intro w hSw; (try dsimp only at hSw); go_simp; try with_reducible rfl
    try simp only [put_y]
    try simp only [Act.put]
    try simp only [put_z]
    refine wpAnyH_take (i := 3) (v := ?_) rfl (by kernel_rfl) (by kernel_rfl) (by kernel_rfl) (fun _ _ _ h => h) (Or.inl ⟨by rfl, ?_⟩) (by assumption) ?_
    rotate_left
    · intro w hSw; (try dsimp only at hSw); go_simp; try with_reducible rfl
    try simp only [put_y]
    try simp only [Act.put]
    try simp only [put_z]
    refine wpAnyH_ready (rs := [0]) (by kernel_rfl) (by simp) ?_
    refine AllReadyH.cons rfl (fun K hK => ?_) AllReadyH.nil
    go_simp
    refine (C.out _).mono ?_
    rintro e w3 ⟨rfl, hs, _, u3⟩
    have h3u : Upd Non W w3 := uD.then_non u3
    obtain ⟨b, o, e, _, _, hc⟩ := hs.at_ (k := j) (by simpa [sCells] using hjl)
    injection e with e
    injection e with e1 e2
    subst e1 e2
    have hc2 : w3.cell? ⟨wD.heap.size, j, none⟩ = some (.string ns) := by rw [Nat.zero_add] at hc; rw [hc, ← Hns.out, HN.out]; simp [sCells]
    clear hs hc
    go_wp2_with fail
    refine hK.out _ _ ?_ (fun hHeld => ?_)
    · exact cell_upd c0 h3u (fun f => f)
    clear hK K
    try simp only [put_y]
    try simp only [Act.put]
    try simp only [put_z]
    refine wpAnyH_take (i := 4) (v := ?_) rfl (by kernel_rfl) (by kernel_rfl) (by kernel_rfl) (fun _ _ _ h => h) (Or.inl ⟨by rfl, ?_⟩) (by assumption) ?_
    rotate_left
    · intro w hSw; (try dsimp only at hSw); go_simp; try with_reducible rfl
    try simp only [put_y]
    try simp only [Act.put]
    try simp only [put_z]
    refine wpAnyH_ready (rs := [5]) (by kernel_rfl) (by simp) ?_
    refine AllReadyH.cons rfl (fun K hK => ?_) AllReadyH.nil
    go_simp
    refine hK.out _ _ ?_ (fun hHeld => ?_)
    · exact cell_upd c0 h3u (fun f => f)
    clear hK K
    try simp only [put_y]
    try simp only [Act.put]
    try simp only [put_z]
    refine wpAnyH_take (i := 6) (v := ?_) rfl (by kernel_rfl) (by kernel_rfl) (by kernel_rfl) (fun _ _ _ h => h) (Or.inl ⟨by rfl, ?_⟩) (by assumption) ?_
    rotate_left
    · intro w hSw; (try dsimp only at hSw); go_simp; try with_reducible rfl
    try simp only [put_y]
    try simp only [Act.put]
    try simp only [put_z]
    refine wpAnyH_take (i := 7) (v := ?_) rfl (by kernel_rfl) (by kernel_rfl) (by kernel_rfl) (fun _ _ _ h => h) (Or.inl ⟨by rfl, ?_⟩) (by assumption) ?_
    rotate_left
    · intro w hSw; (try dsimp only at hSw); go_simp; try with_reducible rfl
    try simp only [put_y]
    try simp only [Act.put]
    try simp only [put_z]
    refine wpAnyH_done (by kernel_rfl) ?_ _
    go_wp2_with fail
    go_meet
    case rel => exact ⟨rfl, h3u⟩
  case rest =>
    obtain ⟨rfl, hwc⟩ := hcut
    have HU := Lib.hid (HU.out.then_non hwc)
    have hb2 := HB.out.upd hwc (fun f => f)
    have d0 := hb2.cell 0
    have d1 := hb2.cell 1
    have d2 := hb2.cell 2
    have d3 := hb2.cell 3
    clear c0 e0 hb2 hwc tj hlt6 hwj h3 hzn HN hjl C
    obtain ⟨w2, rfl⟩ : ∃ v : World, v = wc := ⟨_, rfl⟩
    rw [HJ.out] at d0 HF
    rcases (by omega : j = 0 ∨ j = 3 ∨ j = 4 ∨ j = 5 ∨ j = 1 ∨ j = 2) with rfl | rfl | rfl | rfl | rfl | rfl
    · have d0 : w2.cell? ⟨w.heap.size, 0, none⟩ = some (.int .i64 1) := d0
      have HR : Hid (res = (condNm (1 + (0 : Nat)) ++ [32]) ++ vnF c.a) := by show _ = _; rw [HF.out]; rfl
      have C1 := Lib.hid (fun W => rVarName_c c.a H.out.a0 H.out.a1 W)
      have hz1 : (kstr (vnF c.a)).size ≤ 24 := ksz (by simp [vnF])
      have HE : Hid (s3 ++ kstr (vnF c.a) = kstr res) := by
        show _ = _
        rw [HR.out, ← Hs3.out, HJ.out]
        exact kstr_app _ _
      obtain ⟨p1, Hp1⟩ := nm (kstr (vnF c.a))
      rw [Hp1.out] at C1 hz1 HE
      obtain ⟨ca, Hca⟩ := nm c.a
      rw [Hca.out] at d1 C1
      clear d2 d3
      go_wp2_with fail
      refine (C1.out _).mono ?_
      rintro e w3 ⟨rfl, u3⟩
      go_wp2_with fail
      go_ret
      exact ⟨by rw [← HE.out]; rfl, HU.out.then_non u3⟩
    · have d0 : w2.cell? ⟨w.heap.size, 0, none⟩ = some (.int .i64 4) := d0
      have HR : Hid (res = (condNm (1 + (3 : Nat)) ++ [32]) ++ (vnF c.a ++ [32] ++ vnF c.b)) := by show _ = _; rw [HF.out]; rfl
      have C1 := Lib.hid (fun W => rVarName_c c.a H.out.a0 H.out.a1 W)
      have C2 := Lib.hid (fun W => rVarName_c c.b (H.out.b0 (by have := HJ.out; omega)) (H.out.b1 (by have := HJ.out; omega)) W)
      have hz1 : (kstr (vnF c.a)).size ≤ 24 := ksz (by simp [vnF])
      have hz2 : (kstr (vnF c.b)).size ≤ 24 := ksz (by simp [vnF])
      have HE : Hid ((s3 ++ kstr (vnF c.a) ++ ({ data := #[32] } : ByteArray)) ++ kstr (vnF c.b) = kstr res) := by
        show _ = _
        rw [HR.out, ← Hs3.out, HJ.out]
        exact catF
      obtain ⟨p1, Hp1⟩ := nm (kstr (vnF c.a))
      obtain ⟨p2, Hp2⟩ := nm (kstr (vnF c.b))
      rw [Hp1.out] at C1 hz1 HE
      rw [Hp2.out] at C2 hz2 HE
      obtain ⟨ca, Hca⟩ := nm c.a
      obtain ⟨cb, Hcb⟩ := nm c.b
      rw [Hca.out] at d1 C1
      rw [Hcb.out] at d2 C2
      go_upto_region 6 with fail
      obtain ⟨wD, HwD⟩ := nm w2.drew
      have uD : Upd Non w2 wD := by rw [← HwD.out]; exact Upd.refl.drew
      refine wp_region_held_drew (S := fun w' => w'.cell? ⟨w.heap.size, 1, none⟩ = some (.int .i64 ca) ∧ w'.cell? ⟨w.heap.size, 2, none⟩ = some (.int .i64 cb)) (by kernel_rfl) (by rw [HwD.out]; exact ⟨cell_upd d1 uD (fun f => f), cell_upd d2 uD (fun f => f)⟩) (fun hHeld => ?_)
      skip
      rw [HwD.out] at hHeld ⊢
      have hq1 : ¬ (9223372036854775807 < s3.size + p1.size) := by omega
      have hq2 : ¬ (9223372036854775807 < s3.size + p1.size + 1) := by omega
      have hq3 : ¬ (9223372036854775807 < s3.size + p1.size + 1 + p2.size) := by omega
      refine wpAnyH_take (i := 0) (v := ?_) rfl (by kernel_rfl) (by kernel_rfl) (by kernel_rfl) (fun _ _ _ h => h) (Or.inl ⟨by rfl, ?_⟩) (by assumption) ?_
      rotate_left
      · intro w hSw; (try dsimp only at hSw); go_simp; try with_reducible rfl
      try simp only [put_y]
      try simp only [Act.put]
      try simp only [put_z]
      refine wpAnyH_take (i := 1) (v := ?_) rfl (by kernel_rfl) (by kernel_rfl) (by kernel_rfl) (fun _ _ _ h => h) (Or.inl ⟨by rfl, ?_⟩) (by assumption) ?_
      rotate_left
      · intro w hSw; (try dsimp only at hSw); go_simp; try with_reducible rfl
      try simp only [put_y]
      try simp only [Act.put]
      try simp only [put_z]
      refine wpAnyH_take (i := 2) (v := ?_) rfl (by kernel_rfl) (by kernel_rfl) (by kernel_rfl) (fun _ _ _ h => h) (Or.inl ⟨by rfl, ?_⟩) (by assumption) ?_
      rotate_left
      · intro w hSw; (try dsimp only at hSw); go_simp; try with_reducible rfl
      try simp only [put_y]
      try simp only [Act.put]
      try simp only [put_z]
      refine wpAnyH_take (i := 6) (v := ?_) rfl (by kernel_rfl) (by kernel_rfl) (by kernel_rfl) (fun _ _ _ h => h) (Or.inl ⟨by rfl, ?_⟩) (by assumption) ?_
      rotate_left
      · intro w hSw; (try dsimp only at hSw); go_simp; try with_reducible rfl
      try simp only [put_y]
      try simp only [Act.put]
      try simp only [put_z]
      refine wpAnyH_take (i := 7) (v := ?_) rfl (by kernel_rfl) (by kernel_rfl) (by kernel_rfl) (fun _ _ _ h => h) (Or.inl ⟨by rfl, ?_⟩) (by assumption) ?_
      rotate_left
      · intro w hSw; (try dsimp only at hSw); go_simp; try with_reducible rfl
      try simp only [put_y]
      try simp only [Act.put]
      try simp only [put_z]
      refine wpAnyH_ready (rs := [3]) (by kernel_rfl) (by simp) ?_
      refine AllReadyH.cons rfl (fun K hK => ?_) AllReadyH.nil
      go_simp
      refine (C1.out _).mono ?_
      rintro e w3 ⟨rfl, u3⟩
      have h3 : Upd Non w2 w3 := uD.then_non u3
      go_wp2_with fail
      refine hK.out _ _ ?_ (fun hHeld => ?_)
      · exact ⟨cell_upd d1 h3 (fun f => f), cell_upd d2 h3 (fun f => f)⟩
      clear hK K
      try simp only [put_y]
      try simp only [Act.put]
      try simp only [put_z]
      refine wpAnyH_take (i := 4) (v := ?_) rfl (by kernel_rfl) (by kernel_rfl) (by kernel_rfl) (fun _ _ _ h => h) (Or.inl ⟨by rfl, ?_⟩) (by assumption) ?_
      rotate_left
      · intro w hSw; (try dsimp only at hSw); go_simp; try with_reducible rfl
      try simp only [put_y]
      try simp only [Act.put]
      try simp only [put_z]
      refine wpAnyH_take (i := 5) (v := ?_) rfl (by kernel_rfl) (by kernel_rfl) (by kernel_rfl) (fun _ _ _ h => h) (Or.inl ⟨by rfl, ?_⟩) (by assumption) ?_
      rotate_left
      · intro w hSw; (try dsimp only at hSw); go_simp; try with_reducible rfl
      try simp only [put_y]
      try simp only [Act.put]
      try simp only [put_z]
      refine wpAnyH_ready (rs := [8]) (by kernel_rfl) (by simp) ?_
      refine AllReadyH.cons rfl (fun K hK => ?_) AllReadyH.nil
      go_simp
      refine (C2.out _).mono ?_
      rintro e w4 ⟨rfl, u4⟩
      have h4 : Upd Non w2 w4 := h3.then_non u4
      go_wp2_with fail
      refine hK.out _ _ ?_ (fun hHeld => ?_)
      · exact ⟨cell_upd d1 h4 (fun f => f), cell_upd d2 h4 (fun f => f)⟩
      clear hK K
      try simp only [put_y]
      try simp only [Act.put]
      try simp only [put_z]
      refine wpAnyH_take (i := 9) (v := ?_) rfl (by kernel_rfl) (by kernel_rfl) (by kernel_rfl) (fun _ _ _ h => h) (Or.inl ⟨by rfl, ?_⟩) (by assumption) ?_
      rotate_left
      · intro w hSw; (try dsimp only at hSw); go_simp; try with_reducible rfl
      try simp only [put_y]
      try simp only [Act.put]
      try simp only [put_z]
      refine wpAnyH_take (i := 10) (v := ?_) rfl (by kernel_rfl) (by kernel_rfl) (by kernel_rfl) (fun _ _ _ h => h) (Or.inl ⟨by rfl, ?_⟩) (by assumption) ?_
      rotate_left
      · intro w hSw; (try dsimp only at hSw); go_simp; try with_reducible rfl
      try simp only [put_y]
      try simp only [Act.put]
      try simp only [put_z]
      refine wpAnyH_done (by kernel_rfl) ?_ _
      go_wp2_with fail
      go_ret
      exact ⟨by rw [← HE.out]; rfl, HU.out.then_non h4⟩
    · have d0 : w2.cell? ⟨w.heap.size, 0, none⟩ = some (.int .i64 5) := d0
      have HR : Hid (res = (condNm (1 + (4 : Nat)) ++ [32]) ++ (vnF c.a ++ [32] ++ inF c.b)) := by show _ = _; rw [HF.out]; rfl
      have C1 := Lib.hid (fun W => rVarName_c c.a H.out.a0 H.out.a1 W)
      have C2 := Lib.hid (fun W => rImmName_c c.b (H.out.b0 (by have := HJ.out; omega)) (H.out.b1 (by have := HJ.out; omega)) W)
      have hz1 : (kstr (vnF c.a)).size ≤ 24 := ksz (by simp [vnF])
      have hz2 : (kstr (inF c.b)).size ≤ 24 := ksz (by simp [inF])
      have HE : Hid ((s3 ++ kstr (vnF c.a) ++ ({ data := #[32] } : ByteArray)) ++ kstr (inF c.b) = kstr res) := by
        show _ = _
        rw [HR.out, ← Hs3.out, HJ.out]
        exact catF
      obtain ⟨p1, Hp1⟩ := nm (kstr (vnF c.a))
      obtain ⟨p2, Hp2⟩ := nm (kstr (inF c.b))
      rw [Hp1.out] at C1 hz1 HE
      rw [Hp2.out] at C2 hz2 HE
      obtain ⟨ca, Hca⟩ := nm c.a
      obtain ⟨cb, Hcb⟩ := nm c.b
      rw [Hca.out] at d1 C1
      rw [Hcb.out] at d2 C2
      go_upto_region 8 with fail
      obtain ⟨wD, HwD⟩ := nm w2.drew
      have uD : Upd Non w2 wD := by rw [← HwD.out]; exact Upd.refl.drew
      refine wp_region_held_drew (S := fun w' => w'.cell? ⟨w.heap.size, 1, none⟩ = some (.int .i64 ca) ∧ w'.cell? ⟨w.heap.size, 2, none⟩ = some (.int .i64 cb)) (by kernel_rfl) (by rw [HwD.out]; exact ⟨cell_upd d1 uD (fun f => f), cell_upd d2 uD (fun f => f)⟩) (fun hHeld => ?_)
      skip
      rw [HwD.out] at hHeld ⊢
      have hq1 : ¬ (9223372036854775807 < s3.size + p1.size) := by omega
      have hq2 : ¬ (9223372036854775807 < s3.size + p1.size + 1) := by omega
      have hq3 : ¬ (9223372036854775807 < s3.size + p1.size + 1 + p2.size) := by omega
      refine wpAnyH_take (i := 0) (v := ?_) rfl (by kernel_rfl) (by kernel_rfl) (by kernel_rfl) (fun _ _ _ h => h) (Or.inl ⟨by rfl, ?_⟩) (by assumption) ?_
      rotate_left
      · intro w hSw; (try dsimp only at hSw); go_simp; try with_reducible rfl
      try simp only [put_y]
      try simp only [Act.put]
      try simp only [put_z]
      refine wpAnyH_take (i := 1) (v := ?_) rfl (by kernel_rfl) (by kernel_rfl) (by kernel_rfl) (fun _ _ _ h => h) (Or.inl ⟨by rfl, ?_⟩) (by assumption) ?_
      rotate_left
      · intro w hSw; (try dsimp only at hSw); go_simp; try with_reducible rfl
      try simp only [put_y]
      try simp only [Act.put]
      try simp only [put_z]
      refine wpAnyH_take (i := 2) (v := ?_) rfl (by kernel_rfl) (by kernel_rfl) (by kernel_rfl) (fun _ _ _ h => h) (Or.inl ⟨by rfl, ?_⟩) (by assumption) ?_
      rotate_left
      · intro w hSw; (try dsimp only at hSw); go_simp; try with_reducible rfl
      try simp only [put_y]
      try simp only [Act.put]
      try simp only [put_z]
      refine wpAnyH_take (i := 6) (v := ?_) rfl (by kernel_rfl) (by kernel_rfl) (by kernel_rfl) (fun _ _ _ h => h) (Or.inl ⟨by rfl, ?_⟩) (by assumption) ?_
      rotate_left
      · intro w hSw; (try dsimp only at hSw); go_simp; try with_reducible rfl
      try simp only [put_y]
      try simp only [Act.put]
      try simp only [put_z]
      refine wpAnyH_take (i := 7) (v := ?_) rfl (by kernel_rfl) (by kernel_rfl) (by kernel_rfl) (fun _ _ _ h => h) (Or.inl ⟨by rfl, ?_⟩) (by assumption) ?_
      rotate_left
      · intro w hSw; (try dsimp only at hSw); go_simp; try with_reducible rfl
      try simp only [put_y]
      try simp only [Act.put]
      try simp only [put_z]
      refine wpAnyH_ready (rs := [3]) (by kernel_rfl) (by simp) ?_
      refine AllReadyH.cons rfl (fun K hK => ?_) AllReadyH.nil
      go_simp
      refine (C1.out _).mono ?_
      rintro e w3 ⟨rfl, u3⟩
      have h3 : Upd Non w2 w3 := uD.then_non u3
      go_wp2_with fail
      refine hK.out _ _ ?_ (fun hHeld => ?_)
      · exact ⟨cell_upd d1 h3 (fun f => f), cell_upd d2 h3 (fun f => f)⟩
      clear hK K
      try simp only [put_y]
      try simp only [Act.put]
      try simp only [put_z]
      refine wpAnyH_take (i := 4) (v := ?_) rfl (by kernel_rfl) (by kernel_rfl) (by kernel_rfl) (fun _ _ _ h => h) (Or.inl ⟨by rfl, ?_⟩) (by assumption) ?_
      rotate_left
      · intro w hSw; (try dsimp only at hSw); go_simp; try with_reducible rfl
      try simp only [put_y]
      try simp only [Act.put]
      try simp only [put_z]
      refine wpAnyH_take (i := 5) (v := ?_) rfl (by kernel_rfl) (by kernel_rfl) (by kernel_rfl) (fun _ _ _ h => h) (Or.inl ⟨by rfl, ?_⟩) (by assumption) ?_
      rotate_left
      · intro w hSw; (try dsimp only at hSw); go_simp; try with_reducible rfl
      try simp only [put_y]
      try simp only [Act.put]
      try simp only [put_z]
      refine wpAnyH_ready (rs := [8]) (by kernel_rfl) (by simp) ?_
      refine AllReadyH.cons rfl (fun K hK => ?_) AllReadyH.nil
      go_simp
      refine (C2.out _).mono ?_
      rintro e w4 ⟨rfl, u4⟩
      have h4 : Upd Non w2 w4 := h3.then_non u4
      go_wp2_with fail
      refine hK.out _ _ ?_ (fun hHeld => ?_)
      · exact ⟨cell_upd d1 h4 (fun f => f), cell_upd d2 h4 (fun f => f)⟩
      clear hK K
      try simp only [put_y]
      try simp only [Act.put]
      try simp only [put_z]
      refine wpAnyH_take (i := 9) (v := ?_) rfl (by kernel_rfl) (by kernel_rfl) (by kernel_rfl) (fun _ _ _ h => h) (Or.inl ⟨by rfl, ?_⟩) (by assumption) ?_
      rotate_left
      · intro w hSw; (try dsimp only at hSw); go_simp; try with_reducible rfl
      try simp only [put_y]
      try simp only [Act.put]
      try simp only [put_z]
      refine wpAnyH_take (i := 10) (v := ?_) rfl (by kernel_rfl) (by kernel_rfl) (by kernel_rfl) (fun _ _ _ h => h) (Or.inl ⟨by rfl, ?_⟩) (by assumption) ?_
      rotate_left
      · intro w hSw; (try dsimp only at hSw); go_simp; try with_reducible rfl
      try simp only [put_y]
      try simp only [Act.put]
      try simp only [put_z]
      refine wpAnyH_done (by kernel_rfl) ?_ _
      go_wp2_with fail
      go_ret
      exact ⟨by rw [← HE.out]; rfl, HU.out.then_non h4⟩
    · have d0 : w2.cell? ⟨w.heap.size, 0, none⟩ = some (.int .i64 6) := d0
      have HR : Hid (res = (condNm (1 + (5 : Nat)) ++ [32]) ++ (inF c.a ++ [32] ++ inF c.b)) := by show _ = _; rw [HF.out]; rfl
      have C1 := Lib.hid (fun W => rImmName_c c.a H.out.a0 H.out.a1 W)
      have C2 := Lib.hid (fun W => rImmName_c c.b (H.out.b0 (by have := HJ.out; omega)) (H.out.b1 (by have := HJ.out; omega)) W)
      have hz1 : (kstr (inF c.a)).size ≤ 24 := ksz (by simp [inF])
      have hz2 : (kstr (inF c.b)).size ≤ 24 := ksz (by simp [inF])
      have HE : Hid ((s3 ++ kstr (inF c.a) ++ ({ data := #[32] } : ByteArray)) ++ kstr (inF c.b) = kstr res) := by
        show _ = _
        rw [HR.out, ← Hs3.out, HJ.out]
        exact catF
      obtain ⟨p1, Hp1⟩ := nm (kstr (inF c.a))
      obtain ⟨p2, Hp2⟩ := nm (kstr (inF c.b))
      rw [Hp1.out] at C1 hz1 HE
      rw [Hp2.out] at C2 hz2 HE
      obtain ⟨ca, Hca⟩ := nm c.a
      obtain ⟨cb, Hcb⟩ := nm c.b
      rw [Hca.out] at d1 C1
      rw [Hcb.out] at d2 C2
      go_upto_region 10 with fail
      obtain ⟨wD, HwD⟩ := nm w2.drew
      have uD : Upd Non w2 wD := by rw [← HwD.out]; exact Upd.refl.drew
      refine wp_region_held_drew (S := fun w' => w'.cell? ⟨w.heap.size, 1, none⟩ = some (.int .i64 ca) ∧ w'.cell? ⟨w.heap.size, 2, none⟩ = some (.int .i64 cb)) (by kernel_rfl) (by rw [HwD.out]; exact ⟨cell_upd d1 uD (fun f => f), cell_upd d2 uD (fun f => f)⟩) (fun hHeld => ?_)
      skip
      rw [HwD.out] at hHeld ⊢
      have hq1 : ¬ (9223372036854775807 < s3.size + p1.size) := by omega
      have hq2 : ¬ (9223372036854775807 < s3.size + p1.size + 1) := by omega
      have hq3 : ¬ (9223372036854775807 < s3.size + p1.size + 1 + p2.size) := by omega
      refine wpAnyH_take (i := 0) (v := ?_) rfl (by kernel_rfl) (by kernel_rfl) (by kernel_rfl) (fun _ _ _ h => h) (Or.inl ⟨by rfl, ?_⟩) (by assumption) ?_
      rotate_left
      · intro w hSw; (try dsimp only at hSw); go_simp; try with_reducible rfl
      try simp only [put_y]
      try simp only [Act.put]
      try simp only [put_z]
      refine wpAnyH_take (i := 1) (v := ?_) rfl (by kernel_rfl) (by kernel_rfl) (by kernel_rfl) (fun _ _ _ h => h) (Or.inl ⟨by rfl, ?_⟩) (by assumption) ?_
      rotate_left
      · intro w hSw; (try dsimp only at hSw); go_simp; try with_reducible rfl
      try simp only [put_y]
      try simp only [Act.put]
      try simp only [put_z]
      refine wpAnyH_take (i := 2) (v := ?_) rfl (by kernel_rfl) (by kernel_rfl) (by kernel_rfl) (fun _ _ _ h => h) (Or.inl ⟨by rfl, ?_⟩) (by assumption) ?_
      rotate_left
      · intro w hSw; (try dsimp only at hSw); go_simp; try with_reducible rfl
      try simp only [put_y]
      try simp only [Act.put]
      try simp only [put_z]
      refine wpAnyH_take (i := 6) (v := ?_) rfl (by kernel_rfl) (by kernel_rfl) (by kernel_rfl) (fun _ _ _ h => h) (Or.inl ⟨by rfl, ?_⟩) (by assumption) ?_
      rotate_left
      · intro w hSw; (try dsimp only at hSw); go_simp; try with_reducible rfl
      try simp only [put_y]
      try simp only [Act.put]
      try simp only [put_z]
      refine wpAnyH_take (i := 7) (v := ?_) rfl (by kernel_rfl) (by kernel_rfl) (by kernel_rfl) (fun _ _ _ h => h) (Or.inl ⟨by rfl, ?_⟩) (by assumption) ?_
      rotate_left
      · intro w hSw; (try dsimp only at hSw); go_simp; try with_reducible rfl
      try simp only [put_y]
      try simp only [Act.put]
      try simp only [put_z]
      refine wpAnyH_ready (rs := [3]) (by kernel_rfl) (by simp) ?_
      refine AllReadyH.cons rfl (fun K hK => ?_) AllReadyH.nil
      go_simp
      refine (C1.out _).mono ?_
      rintro e w3 ⟨rfl, u3⟩
      have h3 : Upd Non w2 w3 := uD.then_non u3
      go_wp2_with fail
      refine hK.out _ _ ?_ (fun hHeld => ?_)
      · exact ⟨cell_upd d1 h3 (fun f => f), cell_upd d2 h3 (fun f => f)⟩
      clear hK K
      try simp only [put_y]
      try simp only [Act.put]
      try simp only [put_z]
      refine wpAnyH_take (i := 4) (v := ?_) rfl (by kernel_rfl) (by kernel_rfl) (by kernel_rfl) (fun _ _ _ h => h) (Or.inl ⟨by rfl, ?_⟩) (by assumption) ?_
      rotate_left
      · intro w hSw; (try dsimp only at hSw); go_simp; try with_reducible rfl
      try simp only [put_y]
      try simp only [Act.put]
      try simp only [put_z]
      refine wpAnyH_take (i := 5) (v := ?_) rfl (by kernel_rfl) (by kernel_rfl) (by kernel_rfl) (fun _ _ _ h => h) (Or.inl ⟨by rfl, ?_⟩) (by assumption) ?_
      rotate_left
      · intro w hSw; (try dsimp only at hSw); go_simp; try with_reducible rfl
      try simp only [put_y]
      try simp only [Act.put]
      try simp only [put_z]
      refine wpAnyH_ready (rs := [8]) (by kernel_rfl) (by simp) ?_
      refine AllReadyH.cons rfl (fun K hK => ?_) AllReadyH.nil
      go_simp
      refine (C2.out _).mono ?_
      rintro e w4 ⟨rfl, u4⟩
      have h4 : Upd Non w2 w4 := h3.then_non u4
      go_wp2_with fail
      refine hK.out _ _ ?_ (fun hHeld => ?_)
      · exact ⟨cell_upd d1 h4 (fun f => f), cell_upd d2 h4 (fun f => f)⟩
      clear hK K
      try simp only [put_y]
      try simp only [Act.put]
      try simp only [put_z]
      refine wpAnyH_take (i := 9) (v := ?_) rfl (by kernel_rfl) (by kernel_rfl) (by kernel_rfl) (fun _ _ _ h => h) (Or.inl ⟨by rfl, ?_⟩) (by assumption) ?_
      rotate_left
      · intro w hSw; (try dsimp only at hSw); go_simp; try with_reducible rfl
      try simp only [put_y]
      try simp only [Act.put]
      try simp only [put_z]
      refine wpAnyH_take (i := 10) (v := ?_) rfl (by kernel_rfl) (by kernel_rfl) (by kernel_rfl) (fun _ _ _ h => h) (Or.inl ⟨by rfl, ?_⟩) (by assumption) ?_
      rotate_left
      · intro w hSw; (try dsimp only at hSw); go_simp; try with_reducible rfl
      try simp only [put_y]
      try simp only [Act.put]
      try simp only [put_z]
      refine wpAnyH_done (by kernel_rfl) ?_ _
      go_wp2_with fail
      go_ret
      exact ⟨by rw [← HE.out]; rfl, HU.out.then_non h4⟩
    · have d0 : w2.cell? ⟨w.heap.size, 0, none⟩ = some (.int .i64 2) := d0
      have HR : Hid (res = (condNm (1 + (1 : Nat)) ++ [32]) ++ (vnF c.a ++ [32] ++ textF c.n)) := by show _ = _; rw [HF.out]; rfl
      have C1 := Lib.hid (fun W => rVarName_c c.a H.out.a0 H.out.a1 W)
      have C2 := Lib.hid (fun W => wText_c c.n H.out.n0 H.out.n1 W)
      have hz1 : (kstr (vnF c.a)).size ≤ 24 := ksz (by simp [vnF])
      have hz2 : (kstr (textF c.n)).size ≤ 24 := ksz (by have := textF_len ⟨H.out.n0, H.out.n1⟩; omega)
      have HE : Hid ((s3 ++ kstr (vnF c.a) ++ ({ data := #[32] } : ByteArray)) ++ kstr (textF c.n) = kstr res) := by
        show _ = _
        rw [HR.out, ← Hs3.out, HJ.out]
        exact catF
      obtain ⟨p1, Hp1⟩ := nm (kstr (vnF c.a))
      obtain ⟨p2, Hp2⟩ := nm (kstr (textF c.n))
      rw [Hp1.out] at C1 hz1 HE
      rw [Hp2.out] at C2 hz2 HE
      obtain ⟨ca, Hca⟩ := nm c.a
      obtain ⟨cb, Hcb⟩ := nm c.n
      rw [Hca.out] at d1 C1
      rw [Hcb.out] at d3 C2
      go_upto_region 11 with fail
      obtain ⟨wD, HwD⟩ := nm w2.drew
      have uD : Upd Non w2 wD := by rw [← HwD.out]; exact Upd.refl.drew
      refine wp_region_held_drew (S := fun w' => w'.cell? ⟨w.heap.size, 1, none⟩ = some (.int .i64 ca) ∧ w'.cell? ⟨w.heap.size, 3, none⟩ = some (.int .i64 cb)) (by kernel_rfl) (by rw [HwD.out]; exact ⟨cell_upd d1 uD (fun f => f), cell_upd d3 uD (fun f => f)⟩) (fun hHeld => ?_)
      have d2 := d3
      rw [HwD.out] at hHeld ⊢
      have hq1 : ¬ (9223372036854775807 < s3.size + p1.size) := by omega
      have hq2 : ¬ (9223372036854775807 < s3.size + p1.size + 1) := by omega
      have hq3 : ¬ (9223372036854775807 < s3.size + p1.size + 1 + p2.size) := by omega
      refine wpAnyH_take (i := 0) (v := ?_) rfl (by kernel_rfl) (by kernel_rfl) (by kernel_rfl) (fun _ _ _ h => h) (Or.inl ⟨by rfl, ?_⟩) (by assumption) ?_
      rotate_left
      · intro w hSw; (try dsimp only at hSw); go_simp; try with_reducible rfl
      try simp only [put_y]
      try simp only [Act.put]
      try simp only [put_z]
      refine wpAnyH_take (i := 1) (v := ?_) rfl (by kernel_rfl) (by kernel_rfl) (by kernel_rfl) (fun _ _ _ h => h) (Or.inl ⟨by rfl, ?_⟩) (by assumption) ?_
      rotate_left
      · intro w hSw; (try dsimp only at hSw); go_simp; try with_reducible rfl
      try simp only [put_y]
      try simp only [Act.put]
      try simp only [put_z]
      refine wpAnyH_take (i := 2) (v := ?_) rfl (by kernel_rfl) (by kernel_rfl) (by kernel_rfl) (fun _ _ _ h => h) (Or.inl ⟨by rfl, ?_⟩) (by assumption) ?_
      rotate_left
      · intro w hSw; (try dsimp only at hSw); go_simp; try with_reducible rfl
      try simp only [put_y]
      try simp only [Act.put]
      try simp only [put_z]
      refine wpAnyH_take (i := 6) (v := ?_) rfl (by kernel_rfl) (by kernel_rfl) (by kernel_rfl) (fun _ _ _ h => h) (Or.inl ⟨by rfl, ?_⟩) (by assumption) ?_
      rotate_left
      · intro w hSw; (try dsimp only at hSw); go_simp; try with_reducible rfl
      try simp only [put_y]
      try simp only [Act.put]
      try simp only [put_z]
      refine wpAnyH_take (i := 7) (v := ?_) rfl (by kernel_rfl) (by kernel_rfl) (by kernel_rfl) (fun _ _ _ h => h) (Or.inl ⟨by rfl, ?_⟩) (by assumption) ?_
      rotate_left
      · intro w hSw; (try dsimp only at hSw); go_simp; try with_reducible rfl
      try simp only [put_y]
      try simp only [Act.put]
      try simp only [put_z]
      refine wpAnyH_ready (rs := [3]) (by kernel_rfl) (by simp) ?_
      refine AllReadyH.cons rfl (fun K hK => ?_) AllReadyH.nil
      go_simp
      refine (C1.out _).mono ?_
      rintro e w3 ⟨rfl, u3⟩
      have h3 : Upd Non w2 w3 := uD.then_non u3
      go_wp2_with fail
      refine hK.out _ _ ?_ (fun hHeld => ?_)
      · exact ⟨cell_upd d1 h3 (fun f => f), cell_upd d2 h3 (fun f => f)⟩
      clear hK K
      try simp only [put_y]
      try simp only [Act.put]
      try simp only [put_z]
      refine wpAnyH_take (i := 4) (v := ?_) rfl (by kernel_rfl) (by kernel_rfl) (by kernel_rfl) (fun _ _ _ h => h) (Or.inl ⟨by rfl, ?_⟩) (by assumption) ?_
      rotate_left
      · intro w hSw; (try dsimp only at hSw); go_simp; try with_reducible rfl
      try simp only [put_y]
      try simp only [Act.put]
      try simp only [put_z]
      refine wpAnyH_take (i := 5) (v := ?_) rfl (by kernel_rfl) (by kernel_rfl) (by kernel_rfl) (fun _ _ _ h => h) (Or.inl ⟨by rfl, ?_⟩) (by assumption) ?_
      rotate_left
      · intro w hSw; (try dsimp only at hSw); go_simp; try with_reducible rfl
      try simp only [put_y]
      try simp only [Act.put]
      try simp only [put_z]
      refine wpAnyH_ready (rs := [8]) (by kernel_rfl) (by simp) ?_
      refine AllReadyH.cons rfl (fun K hK => ?_) AllReadyH.nil
      go_simp
      refine (C2.out _).mono ?_
      rintro e w4 ⟨rfl, u4⟩
      have h4 : Upd Non w2 w4 := h3.then_non u4
      go_wp2_with fail
      refine hK.out _ _ ?_ (fun hHeld => ?_)
      · exact ⟨cell_upd d1 h4 (fun f => f), cell_upd d2 h4 (fun f => f)⟩
      clear hK K
      try simp only [put_y]
      try simp only [Act.put]
      try simp only [put_z]
      refine wpAnyH_take (i := 9) (v := ?_) rfl (by kernel_rfl) (by kernel_rfl) (by kernel_rfl) (fun _ _ _ h => h) (Or.inl ⟨by rfl, ?_⟩) (by assumption) ?_
      rotate_left
      · intro w hSw; (try dsimp only at hSw); go_simp; try with_reducible rfl
      try simp only [put_y]
      try simp only [Act.put]
      try simp only [put_z]
      refine wpAnyH_take (i := 10) (v := ?_) rfl (by kernel_rfl) (by kernel_rfl) (by kernel_rfl) (fun _ _ _ h => h) (Or.inl ⟨by rfl, ?_⟩) (by assumption) ?_
      rotate_left
      · intro w hSw; (try dsimp only at hSw); go_simp; try with_reducible rfl
      try simp only [put_y]
      try simp only [Act.put]
      try simp only [put_z]
      refine wpAnyH_done (by kernel_rfl) ?_ _
      go_wp2_with fail
      go_ret
      exact ⟨by rw [← HE.out]; rfl, HU.out.then_non h4⟩
    · have d0 : w2.cell? ⟨w.heap.size, 0, none⟩ = some (.int .i64 3) := d0
      have HR : Hid (res = (condNm (1 + (2 : Nat)) ++ [32]) ++ (vnF c.a ++ [32] ++ textF c.n)) := by show _ = _; rw [HF.out]; rfl
      have C1 := Lib.hid (fun W => rVarName_c c.a H.out.a0 H.out.a1 W)
      have C2 := Lib.hid (fun W => wText_c c.n H.out.n0 H.out.n1 W)
      have hz1 : (kstr (vnF c.a)).size ≤ 24 := ksz (by simp [vnF])
      have hz2 : (kstr (textF c.n)).size ≤ 24 := ksz (by have := textF_len ⟨H.out.n0, H.out.n1⟩; omega)
      have HE : Hid ((s3 ++ kstr (vnF c.a) ++ ({ data := #[32] } : ByteArray)) ++ kstr (textF c.n) = kstr res) := by
        show _ = _
        rw [HR.out, ← Hs3.out, HJ.out]
        exact catF
      obtain ⟨p1, Hp1⟩ := nm (kstr (vnF c.a))
      obtain ⟨p2, Hp2⟩ := nm (kstr (textF c.n))
      rw [Hp1.out] at C1 hz1 HE
      rw [Hp2.out] at C2 hz2 HE
      obtain ⟨ca, Hca⟩ := nm c.a
      obtain ⟨cb, Hcb⟩ := nm c.n
      rw [Hca.out] at d1 C1
      rw [Hcb.out] at d3 C2
      go_upto_region 11 with fail
      obtain ⟨wD, HwD⟩ := nm w2.drew
      have uD : Upd Non w2 wD := by rw [← HwD.out]; exact Upd.refl.drew
      refine wp_region_held_drew (S := fun w' => w'.cell? ⟨w.heap.size, 1, none⟩ = some (.int .i64 ca) ∧ w'.cell? ⟨w.heap.size, 3, none⟩ = some (.int .i64 cb)) (by kernel_rfl) (by rw [HwD.out]; exact ⟨cell_upd d1 uD (fun f => f), cell_upd d3 uD (fun f => f)⟩) (fun hHeld => ?_)
      have d2 := d3
      rw [HwD.out] at hHeld ⊢
      have hq1 : ¬ (9223372036854775807 < s3.size + p1.size) := by omega
      have hq2 : ¬ (9223372036854775807 < s3.size + p1.size + 1) := by omega
      have hq3 : ¬ (9223372036854775807 < s3.size + p1.size + 1 + p2.size) := by omega
      refine wpAnyH_take (i := 0) (v := ?_) rfl (by kernel_rfl) (by kernel_rfl) (by kernel_rfl) (fun _ _ _ h => h) (Or.inl ⟨by rfl, ?_⟩) (by assumption) ?_
      rotate_left
      · intro w hSw; (try dsimp only at hSw); go_simp; try with_reducible rfl
      try simp only [put_y]
      try simp only [Act.put]
      try simp only [put_z]
      refine wpAnyH_take (i := 1) (v := ?_) rfl (by kernel_rfl) (by kernel_rfl) (by kernel_rfl) (fun _ _ _ h => h) (Or.inl ⟨by rfl, ?_⟩) (by assumption) ?_
      rotate_left
      · intro w hSw; (try dsimp only at hSw); go_simp; try with_reducible rfl
      try simp only [put_y]
      try simp only [Act.put]
      try simp only [put_z]
      refine wpAnyH_take (i := 2) (v := ?_) rfl (by kernel_rfl) (by kernel_rfl) (by kernel_rfl) (fun _ _ _ h => h) (Or.inl ⟨by rfl, ?_⟩) (by assumption) ?_
      rotate_left
      · intro w hSw; (try dsimp only at hSw); go_simp; try with_reducible rfl
      try simp only [put_y]
      try simp only [Act.put]
      try simp only [put_z]
      refine wpAnyH_take (i := 6) (v := ?_) rfl (by kernel_rfl) (by kernel_rfl) (by kernel_rfl) (fun _ _ _ h => h) (Or.inl ⟨by rfl, ?_⟩) (by assumption) ?_
      rotate_left
      · intro w hSw; (try dsimp only at hSw); go_simp; try with_reducible rfl
      try simp only [put_y]
      try simp only [Act.put]
      try simp only [put_z]
      refine wpAnyH_take (i := 7) (v := ?_) rfl (by kernel_rfl) (by kernel_rfl) (by kernel_rfl) (fun _ _ _ h => h) (Or.inl ⟨by rfl, ?_⟩) (by assumption) ?_
      rotate_left
      · intro w hSw; (try dsimp only at hSw); go_simp; try with_reducible rfl
      try simp only [put_y]
      try simp only [Act.put]
      try simp only [put_z]
      refine wpAnyH_ready (rs := [3]) (by kernel_rfl) (by simp) ?_
      refine AllReadyH.cons rfl (fun K hK => ?_) AllReadyH.nil
      go_simp
      refine (C1.out _).mono ?_
      rintro e w3 ⟨rfl, u3⟩
      have h3 : Upd Non w2 w3 := uD.then_non u3
      go_wp2_with fail
      refine hK.out _ _ ?_ (fun hHeld => ?_)
      · exact ⟨cell_upd d1 h3 (fun f => f), cell_upd d2 h3 (fun f => f)⟩
      clear hK K
      try simp only [put_y]
      try simp only [Act.put]
      try simp only [put_z]
      refine wpAnyH_take (i := 4) (v := ?_) rfl (by kernel_rfl) (by kernel_rfl) (by kernel_rfl) (fun _ _ _ h => h) (Or.inl ⟨by rfl, ?_⟩) (by assumption) ?_
      rotate_left
      · intro w hSw; (try dsimp only at hSw); go_simp; try with_reducible rfl
      try simp only [put_y]
      try simp only [Act.put]
      try simp only [put_z]
      refine wpAnyH_take (i := 5) (v := ?_) rfl (by kernel_rfl) (by kernel_rfl) (by kernel_rfl) (fun _ _ _ h => h) (Or.inl ⟨by rfl, ?_⟩) (by assumption) ?_
      rotate_left
      · intro w hSw; (try dsimp only at hSw); go_simp; try with_reducible rfl
      try simp only [put_y]
      try simp only [Act.put]
      try simp only [put_z]
      refine wpAnyH_ready (rs := [8]) (by kernel_rfl) (by simp) ?_
      refine AllReadyH.cons rfl (fun K hK => ?_) AllReadyH.nil
      go_simp
      refine (C2.out _).mono ?_
      rintro e w4 ⟨rfl, u4⟩
      have h4 : Upd Non w2 w4 := h3.then_non u4
      go_wp2_with fail
      refine hK.out _ _ ?_ (fun hHeld => ?_)
      · exact ⟨cell_upd d1 h4 (fun f => f), cell_upd d2 h4 (fun f => f)⟩
      clear hK K
      try simp only [put_y]
      try simp only [Act.put]
      try simp only [put_z]
      refine wpAnyH_take (i := 9) (v := ?_) rfl (by kernel_rfl) (by kernel_rfl) (by kernel_rfl) (fun _ _ _ h => h) (Or.inl ⟨by rfl, ?_⟩) (by assumption) ?_
      rotate_left
      · intro w hSw; (try dsimp only at hSw); go_simp; try with_reducible rfl
      try simp only [put_y]
      try simp only [Act.put]
      try simp only [put_z]
      refine wpAnyH_take (i := 10) (v := ?_) rfl (by kernel_rfl) (by kernel_rfl) (by kernel_rfl) (fun _ _ _ h => h) (Or.inl ⟨by rfl, ?_⟩) (by assumption) ?_
      rotate_left
      · intro w hSw; (try dsimp only at hSw); go_simp; try with_reducible rfl
      try simp only [put_y]
      try simp only [Act.put]
      try simp only [put_z]
      refine wpAnyH_done (by kernel_rfl) ?_ _
      go_wp2_with fail
      go_ret
      exact ⟨by rw [← HE.out]; rfl, HU.out.then_non h4⟩
end Go.Proofs.Ytblkgjdhaibhgaa
