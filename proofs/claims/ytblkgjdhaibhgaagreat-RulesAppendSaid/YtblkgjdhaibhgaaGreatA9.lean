/-
  Lemmas and walks that the claim rests on, part 9 (packed by a program).
-/
import Derived.Test.YtblkgjdhaibhgaaGreatA8
import Derived.Test.YtblkgjdhaibhgaaGreatA6
import Derived.Test.YtblkgjdhaibhgaaGreatA7
import Derived.Lib.AppendStr
import Derived.Test.YtblkgjdhaibhgaaGreatA2
import Derived.Test.YtblkgjdhaibhgaaGreatA1
namespace Go.Proofs.YtblkgjdhaibhgaaGreat
open Go.RowKit
structure CdFm (c : Cd) : Prop where
 k0 : 1 ≤ c.kind
 k1 : c.kind ≤ 6
 a0 : 0 < c.a
 a1 : c.a ≤ 100
 b0 : 4 ≤ c.kind → 0 < c.b
 b1 : 4 ≤ c.kind → c.b ≤ 100
 n0 : -9223372036854775808 ≤ c.n
 n1 : c.n ≤ 9223372036854775807
theorem fmtC_len {c : Cd} (h : CdFm c) : (fmtC c).length ≤ 40 := by
 have e1 := condNm_len c.kind;have e2 := textF_len ⟨h.n0, h.n1⟩;unfold fmtC;simp only [List.length_append, List.length_singleton]
 have : (if c.kind = 1 then vnF c.a else if c.kind = 4 then vnF c.a ++ [32] ++ vnF c.b else if c.kind = 5 then vnF c.a ++ [32] ++ inF c.b else if c.kind = 6 then inF c.a ++ [32] ++ inF c.b else vnF c.a ++ [32] ++ textF c.n).length ≤ 24 := by
  repeat' split
  all_goals simp [vnF, inF]
  all_goals omega
 omega
theorem catF {a b c : Bs} : (kstr a ++ kstr b ++ ({ data := #[32] } : ByteArray)) ++ kstr c = kstr (a ++ (b ++ [32] ++ c)) := by
 rw [show ({ data := #[32] } : ByteArray) = kstr [32] from rfl, kstr_app, kstr_app, kstr_app];simp
set_option maxRecDepth 100000 in
set_option maxHeartbeats 2000000 in
theorem rFormatCond_c (c : Cd) (h : CdFm c) (w : World) : Calls Tryz.prog 33 #[.agg #[.int .i64 c.kind, .int .i64 c.a, .int .i64 c.b, .int .i64 c.n]] w fun e w' => e = .returned (.string (kstr (fmtC c))) ∧ Upd Non w w' := by
 obtain ⟨W, HW⟩ := nm (w.alloc (.cells #[.int .i64 c.kind, .int .i64 c.a, .int .i64 c.b, .int .i64 c.n] 69))
 have hU : Upd Non w W := by rw [← HW.out]; exact Upd.refl.alloc _
 have hb : Blk W w.heap.size 69 #[.int .i64 c.kind, .int .i64 c.a, .int .i64 c.b, .int .i64 c.n] := by rw [← HW.out]; exact Blk.new _ _ _
 have e0 := HW.out;have HU := Lib.hid hU;have HB := Lib.hid hb;have H := Lib.hid h;have c0 := hb.cell 0;have C := Lib.hid (fun W => condNames_c W);have hk0 := h.k0;have hk1 := h.k1
 have HF : Hid (fmtC c = (condNm c.kind ++ [32]) ++ (if c.kind = 1 then vnF c.a else if c.kind = 4 then vnF c.a ++ [32] ++ vnF c.b else if c.kind = 5 then vnF c.a ++ [32] ++ inF c.b else if c.kind = 6 then inF c.a ++ [32] ++ inF c.b else vnF c.a ++ [32] ++ textF c.n)) := rfl
 obtain ⟨res, Hres⟩ := nm (fmtC c);rw [Hres.out] at HF ⊢;have hzn : (kstr (condNm c.kind)).size ≤ 7 := ksz (condNm_len _);have hz3 : (kstr (condNm c.kind ++ [32])).size ≤ 8 := ksz (by have := condNm_len c.kind; simp; omega);have h3 : kstr (condNm c.kind) ++ ({ data := #[32] } : ByteArray) = kstr (condNm c.kind ++ [32]) := kstr_app _ [32]
 obtain ⟨j, hj⟩ : ∃ j : Nat, c.kind = 1 + j := ⟨(c.kind - 1).toNat, by omega⟩
 have hj6 : j < 6 := by omega
 have hjl : j < condL.length := hj6
 have HN : Hid (condNm c.kind = condL[j]) := by
  show _ = _;unfold condNm;rw [show (c.kind - 1).toNat = j by omega, List.getD, List.getElem?_eq_getElem hjl, Option.getD_some]
 have tj : 1 + (j : Int) - 1 = (j : Int) := by omega
 have hwj : IntKind.i64.wrap (j : Int) = (j : Int) := by
  simp [IntKind.wrap, IntKind.bits, IntKind.signed];omega
 have hlt6 : (j : Int) < 6 := by omega
 have HJ := Lib.hid hj;obtain ⟨ns, Hns⟩ := nm (kstr (condNm c.kind));obtain ⟨s3, Hs3⟩ := nm (kstr (condNm c.kind ++ [32]));rw [Hns.out] at hzn h3;rw [Hs3.out] at hz3 h3;rw [hj] at c0 e0;rw [hj];clear hU hb h hj hk0 hk1;go_enter Tryz.func33, Tryz.ntmps33
 go_upto_region 1 with fail
 go_cut [3] (fun s wx => s = .string s3 ∧ Upd Non W wx)
 case first =>
  obtain ⟨wD, HwD⟩ := nm W.drew
  have uD : Upd Non W wD := by rw [← HwD.out]; exact Upd.refl.drew
  refine wp_region_held_drew (S := fun w' => w'.cell? ⟨w.heap.size, 0, none⟩ = some (.int .i64 (1 + (j : Int)))) (by kernel_rfl) (by rw [HwD.out]; exact cell_upd c0 uD (fun f => f)) (fun hHeld => ?_)
  rw [HwD.out] at hHeld ⊢
  have hq1 : ¬ (9223372036854775807 < ns.size + 1) := by omega
  refine wpT 1 ?_
  try simp only [put_y, put_z]
  refine wpT 2 ?_
  try simp only [put_y, put_z]
  refine wpT 3 ?_
  try simp only [put_y, put_z]
  refine wpAnyH_ready (rs := [0]) (by kernel_rfl) (by simp) ?_;refine AllReadyH.cons rfl (fun K hK => ?_) AllReadyH.nil;go_simp;refine (C.out _).mono ?_;rintro e w3 ⟨rfl, hs, _, u3⟩;have h3u : Upd Non W w3 := uD.then_non u3;obtain ⟨b, o, e, _, _, hc⟩ := hs.at_ (k := j) (by simpa [sCells] using hjl)
  injection e with e
  injection e with e1 e2
  subst e1 e2
  have hc2 : w3.cell? ⟨wD.heap.size, j, none⟩ = some (.string ns) := by rw [Nat.zero_add] at hc; rw [hc, ← Hns.out, HN.out]; simp [sCells]
  clear hs hc
  go_wp2_with fail
  refine hK.out _ _ ?_ (fun hHeld => ?_)
  ·
   exact cell_upd c0 h3u (fun f => f)
  clear hK K
  try simp only [put_y, put_z]
  refine wpT 4 ?_
  try simp only [put_y, put_z]
  refine wpAnyH_ready (rs := [5]) (by kernel_rfl) (by simp) ?_;refine AllReadyH.cons rfl (fun K hK => ?_) AllReadyH.nil;go_simp;refine hK.out _ _ ?_ (fun hHeld => ?_)
  ·
   exact cell_upd c0 h3u (fun f => f)
  clear hK K
  try simp only [put_y, put_z]
  refine wpT 6 ?_
  try simp only [put_y, put_z]
  refine wpT 7 ?_
  try simp only [put_y, put_z]
  refine wpAnyH_done (by kernel_rfl) ?_ _
  go_wp2_with fail
  go_meet
  case rel => exact ⟨rfl, h3u⟩
 case rest =>
  obtain ⟨rfl, hwc⟩ := hcut;have HU := Lib.hid (HU.out.then_non hwc);have hb2 := HB.out.upd hwc (fun f => f);have d0 := hb2.cell 0;have d1 := hb2.cell 1;have d2 := hb2.cell 2;have d3 := hb2.cell 3;clear c0 e0 hb2 hwc tj hlt6 hwj h3 hzn HN hjl C;obtain ⟨w2, rfl⟩ : ∃ v : World, v = wc := ⟨_, rfl⟩;rw [HJ.out] at d0 HF
  rcases (by omega : j = 0 ∨ j = 3 ∨ j = 4 ∨ j = 5 ∨ j = 1 ∨ j = 2) with rfl | rfl | rfl | rfl | rfl | rfl
  ·
   have d0 : w2.cell? ⟨w.heap.size, 0, none⟩ = some (.int .i64 1) := d0
   have HR : Hid (res = (condNm (1 + (0 : Nat)) ++ [32]) ++ vnF c.a) := by show _ = _; rw [HF.out]; rfl
   have C1 := Lib.hid (fun W => rVarName_c c.a H.out.a0 H.out.a1 W);have hz1 : (kstr (vnF c.a)).size ≤ 24 := ksz (by simp [vnF])
   have HE : Hid (s3 ++ kstr (vnF c.a) = kstr res) := by
    show _ = _;rw [HR.out, ← Hs3.out, HJ.out];exact kstr_app _ _
   obtain ⟨p1, Hp1⟩ := nm (kstr (vnF c.a));rw [Hp1.out] at C1 hz1 HE;obtain ⟨ca, Hca⟩ := nm c.a;rw [Hca.out] at d1 C1;clear d2 d3
   go_wp2_with fail
   refine (C1.out _).mono ?_;rintro e w3 ⟨rfl, u3⟩
   go_wp2_with fail
   go_ret;exact ⟨by rw [← HE.out]; rfl, HU.out.then_non u3⟩
  ·
   have d0 : w2.cell? ⟨w.heap.size, 0, none⟩ = some (.int .i64 4) := d0
   have HR : Hid (res = (condNm (1 + (3 : Nat)) ++ [32]) ++ (vnF c.a ++ [32] ++ vnF c.b)) := by show _ = _; rw [HF.out]; rfl
   have C1 := Lib.hid (fun W => rVarName_c c.a H.out.a0 H.out.a1 W);have C2 := Lib.hid (fun W => rVarName_c c.b (H.out.b0 (by have := HJ.out; omega)) (H.out.b1 (by have := HJ.out; omega)) W);have hz1 : (kstr (vnF c.a)).size ≤ 24 := ksz (by simp [vnF]);have hz2 : (kstr (vnF c.b)).size ≤ 24 := ksz (by simp [vnF])
   have HE : Hid ((s3 ++ kstr (vnF c.a) ++ ({ data := #[32] } : ByteArray)) ++ kstr (vnF c.b) = kstr res) := by
    show _ = _;rw [HR.out, ← Hs3.out, HJ.out];exact catF
   obtain ⟨p1, Hp1⟩ := nm (kstr (vnF c.a));obtain ⟨p2, Hp2⟩ := nm (kstr (vnF c.b));rw [Hp1.out] at C1 hz1 HE;rw [Hp2.out] at C2 hz2 HE;obtain ⟨ca, Hca⟩ := nm c.a;obtain ⟨cb, Hcb⟩ := nm c.b;rw [Hca.out] at d1 C1;rw [Hcb.out] at d2 C2
   go_upto_region 6 with fail
   obtain ⟨wD, HwD⟩ := nm w2.drew
   have uD : Upd Non w2 wD := by rw [← HwD.out]; exact Upd.refl.drew
   refine wp_region_held_drew (S := fun w' => w'.cell? ⟨w.heap.size, 1, none⟩ = some (.int .i64 ca) ∧ w'.cell? ⟨w.heap.size, 2, none⟩ = some (.int .i64 cb)) (by kernel_rfl) (by rw [HwD.out]; exact ⟨cell_upd d1 uD (fun f => f), cell_upd d2 uD (fun f => f)⟩) (fun hHeld => ?_)
   skip;rw [HwD.out] at hHeld ⊢
   have hq1 : ¬ (9223372036854775807 < s3.size + p1.size) := by omega
   have hq2 : ¬ (9223372036854775807 < s3.size + p1.size + 1) := by omega
   have hq3 : ¬ (9223372036854775807 < s3.size + p1.size + 1 + p2.size) := by omega
   refine wpT 0 ?_
   try simp only [put_y, put_z]
   refine wpT 1 ?_
   try simp only [put_y, put_z]
   refine wpT 2 ?_
   try simp only [put_y, put_z]
   refine wpT 6 ?_
   try simp only [put_y, put_z]
   refine wpT 7 ?_
   try simp only [put_y, put_z]
   refine wpAnyH_ready (rs := [3]) (by kernel_rfl) (by simp) ?_;refine AllReadyH.cons rfl (fun K hK => ?_) AllReadyH.nil;go_simp;refine (C1.out _).mono ?_;rintro e w3 ⟨rfl, u3⟩;have h3 : Upd Non w2 w3 := uD.then_non u3
   go_wp2_with fail
   refine hK.out _ _ ?_ (fun hHeld => ?_)
   ·
    exact ⟨cell_upd d1 h3 (fun f => f), cell_upd d2 h3 (fun f => f)⟩
   clear hK K
   try simp only [put_y, put_z]
   refine wpT 4 ?_
   try simp only [put_y, put_z]
   refine wpT 5 ?_
   try simp only [put_y, put_z]
   refine wpAnyH_ready (rs := [8]) (by kernel_rfl) (by simp) ?_;refine AllReadyH.cons rfl (fun K hK => ?_) AllReadyH.nil;go_simp;refine (C2.out _).mono ?_;rintro e w4 ⟨rfl, u4⟩;have h4 : Upd Non w2 w4 := h3.then_non u4
   go_wp2_with fail
   refine hK.out _ _ ?_ (fun hHeld => ?_)
   ·
    exact ⟨cell_upd d1 h4 (fun f => f), cell_upd d2 h4 (fun f => f)⟩
   clear hK K
   try simp only [put_y, put_z]
   refine wpT 9 ?_
   try simp only [put_y, put_z]
   refine wpT 10 ?_
   try simp only [put_y, put_z]
   refine wpAnyH_done (by kernel_rfl) ?_ _
   go_wp2_with fail
   go_ret;exact ⟨by rw [← HE.out]; rfl, HU.out.then_non h4⟩
  ·
   have d0 : w2.cell? ⟨w.heap.size, 0, none⟩ = some (.int .i64 5) := d0
   have HR : Hid (res = (condNm (1 + (4 : Nat)) ++ [32]) ++ (vnF c.a ++ [32] ++ inF c.b)) := by show _ = _; rw [HF.out]; rfl
   have C1 := Lib.hid (fun W => rVarName_c c.a H.out.a0 H.out.a1 W);have C2 := Lib.hid (fun W => rImmName_c c.b (H.out.b0 (by have := HJ.out; omega)) (H.out.b1 (by have := HJ.out; omega)) W);have hz1 : (kstr (vnF c.a)).size ≤ 24 := ksz (by simp [vnF]);have hz2 : (kstr (inF c.b)).size ≤ 24 := ksz (by simp [inF])
   have HE : Hid ((s3 ++ kstr (vnF c.a) ++ ({ data := #[32] } : ByteArray)) ++ kstr (inF c.b) = kstr res) := by
    show _ = _;rw [HR.out, ← Hs3.out, HJ.out];exact catF
   obtain ⟨p1, Hp1⟩ := nm (kstr (vnF c.a));obtain ⟨p2, Hp2⟩ := nm (kstr (inF c.b));rw [Hp1.out] at C1 hz1 HE;rw [Hp2.out] at C2 hz2 HE;obtain ⟨ca, Hca⟩ := nm c.a;obtain ⟨cb, Hcb⟩ := nm c.b;rw [Hca.out] at d1 C1;rw [Hcb.out] at d2 C2
   go_upto_region 8 with fail
   obtain ⟨wD, HwD⟩ := nm w2.drew
   have uD : Upd Non w2 wD := by rw [← HwD.out]; exact Upd.refl.drew
   refine wp_region_held_drew (S := fun w' => w'.cell? ⟨w.heap.size, 1, none⟩ = some (.int .i64 ca) ∧ w'.cell? ⟨w.heap.size, 2, none⟩ = some (.int .i64 cb)) (by kernel_rfl) (by rw [HwD.out]; exact ⟨cell_upd d1 uD (fun f => f), cell_upd d2 uD (fun f => f)⟩) (fun hHeld => ?_)
   skip;rw [HwD.out] at hHeld ⊢
   have hq1 : ¬ (9223372036854775807 < s3.size + p1.size) := by omega
   have hq2 : ¬ (9223372036854775807 < s3.size + p1.size + 1) := by omega
   have hq3 : ¬ (9223372036854775807 < s3.size + p1.size + 1 + p2.size) := by omega
   refine wpT 0 ?_
   try simp only [put_y, put_z]
   refine wpT 1 ?_
   try simp only [put_y, put_z]
   refine wpT 2 ?_
   try simp only [put_y, put_z]
   refine wpT 6 ?_
   try simp only [put_y, put_z]
   refine wpT 7 ?_
   try simp only [put_y, put_z]
   refine wpAnyH_ready (rs := [3]) (by kernel_rfl) (by simp) ?_;refine AllReadyH.cons rfl (fun K hK => ?_) AllReadyH.nil;go_simp;refine (C1.out _).mono ?_;rintro e w3 ⟨rfl, u3⟩;have h3 : Upd Non w2 w3 := uD.then_non u3
   go_wp2_with fail
   refine hK.out _ _ ?_ (fun hHeld => ?_)
   ·
    exact ⟨cell_upd d1 h3 (fun f => f), cell_upd d2 h3 (fun f => f)⟩
   clear hK K
   try simp only [put_y, put_z]
   refine wpT 4 ?_
   try simp only [put_y, put_z]
   refine wpT 5 ?_
   try simp only [put_y, put_z]
   refine wpAnyH_ready (rs := [8]) (by kernel_rfl) (by simp) ?_;refine AllReadyH.cons rfl (fun K hK => ?_) AllReadyH.nil;go_simp;refine (C2.out _).mono ?_;rintro e w4 ⟨rfl, u4⟩;have h4 : Upd Non w2 w4 := h3.then_non u4
   go_wp2_with fail
   refine hK.out _ _ ?_ (fun hHeld => ?_)
   ·
    exact ⟨cell_upd d1 h4 (fun f => f), cell_upd d2 h4 (fun f => f)⟩
   clear hK K
   try simp only [put_y, put_z]
   refine wpT 9 ?_
   try simp only [put_y, put_z]
   refine wpT 10 ?_
   try simp only [put_y, put_z]
   refine wpAnyH_done (by kernel_rfl) ?_ _
   go_wp2_with fail
   go_ret;exact ⟨by rw [← HE.out]; rfl, HU.out.then_non h4⟩
  ·
   have d0 : w2.cell? ⟨w.heap.size, 0, none⟩ = some (.int .i64 6) := d0
   have HR : Hid (res = (condNm (1 + (5 : Nat)) ++ [32]) ++ (inF c.a ++ [32] ++ inF c.b)) := by show _ = _; rw [HF.out]; rfl
   have C1 := Lib.hid (fun W => rImmName_c c.a H.out.a0 H.out.a1 W);have C2 := Lib.hid (fun W => rImmName_c c.b (H.out.b0 (by have := HJ.out; omega)) (H.out.b1 (by have := HJ.out; omega)) W);have hz1 : (kstr (inF c.a)).size ≤ 24 := ksz (by simp [inF]);have hz2 : (kstr (inF c.b)).size ≤ 24 := ksz (by simp [inF])
   have HE : Hid ((s3 ++ kstr (inF c.a) ++ ({ data := #[32] } : ByteArray)) ++ kstr (inF c.b) = kstr res) := by
    show _ = _;rw [HR.out, ← Hs3.out, HJ.out];exact catF
   obtain ⟨p1, Hp1⟩ := nm (kstr (inF c.a));obtain ⟨p2, Hp2⟩ := nm (kstr (inF c.b));rw [Hp1.out] at C1 hz1 HE;rw [Hp2.out] at C2 hz2 HE;obtain ⟨ca, Hca⟩ := nm c.a;obtain ⟨cb, Hcb⟩ := nm c.b;rw [Hca.out] at d1 C1;rw [Hcb.out] at d2 C2
   go_upto_region 10 with fail
   obtain ⟨wD, HwD⟩ := nm w2.drew
   have uD : Upd Non w2 wD := by rw [← HwD.out]; exact Upd.refl.drew
   refine wp_region_held_drew (S := fun w' => w'.cell? ⟨w.heap.size, 1, none⟩ = some (.int .i64 ca) ∧ w'.cell? ⟨w.heap.size, 2, none⟩ = some (.int .i64 cb)) (by kernel_rfl) (by rw [HwD.out]; exact ⟨cell_upd d1 uD (fun f => f), cell_upd d2 uD (fun f => f)⟩) (fun hHeld => ?_)
   skip;rw [HwD.out] at hHeld ⊢
   have hq1 : ¬ (9223372036854775807 < s3.size + p1.size) := by omega
   have hq2 : ¬ (9223372036854775807 < s3.size + p1.size + 1) := by omega
   have hq3 : ¬ (9223372036854775807 < s3.size + p1.size + 1 + p2.size) := by omega
   refine wpT 0 ?_
   try simp only [put_y, put_z]
   refine wpT 1 ?_
   try simp only [put_y, put_z]
   refine wpT 2 ?_
   try simp only [put_y, put_z]
   refine wpT 6 ?_
   try simp only [put_y, put_z]
   refine wpT 7 ?_
   try simp only [put_y, put_z]
   refine wpAnyH_ready (rs := [3]) (by kernel_rfl) (by simp) ?_;refine AllReadyH.cons rfl (fun K hK => ?_) AllReadyH.nil;go_simp;refine (C1.out _).mono ?_;rintro e w3 ⟨rfl, u3⟩;have h3 : Upd Non w2 w3 := uD.then_non u3
   go_wp2_with fail
   refine hK.out _ _ ?_ (fun hHeld => ?_)
   ·
    exact ⟨cell_upd d1 h3 (fun f => f), cell_upd d2 h3 (fun f => f)⟩
   clear hK K
   try simp only [put_y, put_z]
   refine wpT 4 ?_
   try simp only [put_y, put_z]
   refine wpT 5 ?_
   try simp only [put_y, put_z]
   refine wpAnyH_ready (rs := [8]) (by kernel_rfl) (by simp) ?_;refine AllReadyH.cons rfl (fun K hK => ?_) AllReadyH.nil;go_simp;refine (C2.out _).mono ?_;rintro e w4 ⟨rfl, u4⟩;have h4 : Upd Non w2 w4 := h3.then_non u4
   go_wp2_with fail
   refine hK.out _ _ ?_ (fun hHeld => ?_)
   ·
    exact ⟨cell_upd d1 h4 (fun f => f), cell_upd d2 h4 (fun f => f)⟩
   clear hK K
   try simp only [put_y, put_z]
   refine wpT 9 ?_
   try simp only [put_y, put_z]
   refine wpT 10 ?_
   try simp only [put_y, put_z]
   refine wpAnyH_done (by kernel_rfl) ?_ _
   go_wp2_with fail
   go_ret;exact ⟨by rw [← HE.out]; rfl, HU.out.then_non h4⟩
  ·
   have d0 : w2.cell? ⟨w.heap.size, 0, none⟩ = some (.int .i64 2) := d0
   have HR : Hid (res = (condNm (1 + (1 : Nat)) ++ [32]) ++ (vnF c.a ++ [32] ++ textF c.n)) := by show _ = _; rw [HF.out]; rfl
   have C1 := Lib.hid (fun W => rVarName_c c.a H.out.a0 H.out.a1 W);have C2 := Lib.hid (fun W => wText_c c.n H.out.n0 H.out.n1 W);have hz1 : (kstr (vnF c.a)).size ≤ 24 := ksz (by simp [vnF]);have hz2 : (kstr (textF c.n)).size ≤ 24 := ksz (by have := textF_len ⟨H.out.n0, H.out.n1⟩; omega)
   have HE : Hid ((s3 ++ kstr (vnF c.a) ++ ({ data := #[32] } : ByteArray)) ++ kstr (textF c.n) = kstr res) := by
    show _ = _;rw [HR.out, ← Hs3.out, HJ.out];exact catF
   obtain ⟨p1, Hp1⟩ := nm (kstr (vnF c.a));obtain ⟨p2, Hp2⟩ := nm (kstr (textF c.n));rw [Hp1.out] at C1 hz1 HE;rw [Hp2.out] at C2 hz2 HE;obtain ⟨ca, Hca⟩ := nm c.a;obtain ⟨cb, Hcb⟩ := nm c.n;rw [Hca.out] at d1 C1;rw [Hcb.out] at d3 C2
   go_upto_region 11 with fail
   obtain ⟨wD, HwD⟩ := nm w2.drew
   have uD : Upd Non w2 wD := by rw [← HwD.out]; exact Upd.refl.drew
   refine wp_region_held_drew (S := fun w' => w'.cell? ⟨w.heap.size, 1, none⟩ = some (.int .i64 ca) ∧ w'.cell? ⟨w.heap.size, 3, none⟩ = some (.int .i64 cb)) (by kernel_rfl) (by rw [HwD.out]; exact ⟨cell_upd d1 uD (fun f => f), cell_upd d3 uD (fun f => f)⟩) (fun hHeld => ?_)
   have d2 := d3;rw [HwD.out] at hHeld ⊢
   have hq1 : ¬ (9223372036854775807 < s3.size + p1.size) := by omega
   have hq2 : ¬ (9223372036854775807 < s3.size + p1.size + 1) := by omega
   have hq3 : ¬ (9223372036854775807 < s3.size + p1.size + 1 + p2.size) := by omega
   refine wpT 0 ?_
   try simp only [put_y, put_z]
   refine wpT 1 ?_
   try simp only [put_y, put_z]
   refine wpT 2 ?_
   try simp only [put_y, put_z]
   refine wpT 6 ?_
   try simp only [put_y, put_z]
   refine wpT 7 ?_
   try simp only [put_y, put_z]
   refine wpAnyH_ready (rs := [3]) (by kernel_rfl) (by simp) ?_;refine AllReadyH.cons rfl (fun K hK => ?_) AllReadyH.nil;go_simp;refine (C1.out _).mono ?_;rintro e w3 ⟨rfl, u3⟩;have h3 : Upd Non w2 w3 := uD.then_non u3
   go_wp2_with fail
   refine hK.out _ _ ?_ (fun hHeld => ?_)
   ·
    exact ⟨cell_upd d1 h3 (fun f => f), cell_upd d2 h3 (fun f => f)⟩
   clear hK K
   try simp only [put_y, put_z]
   refine wpT 4 ?_
   try simp only [put_y, put_z]
   refine wpT 5 ?_
   try simp only [put_y, put_z]
   refine wpAnyH_ready (rs := [8]) (by kernel_rfl) (by simp) ?_;refine AllReadyH.cons rfl (fun K hK => ?_) AllReadyH.nil;go_simp;refine (C2.out _).mono ?_;rintro e w4 ⟨rfl, u4⟩;have h4 : Upd Non w2 w4 := h3.then_non u4
   go_wp2_with fail
   refine hK.out _ _ ?_ (fun hHeld => ?_)
   ·
    exact ⟨cell_upd d1 h4 (fun f => f), cell_upd d2 h4 (fun f => f)⟩
   clear hK K
   try simp only [put_y, put_z]
   refine wpT 9 ?_
   try simp only [put_y, put_z]
   refine wpT 10 ?_
   try simp only [put_y, put_z]
   refine wpAnyH_done (by kernel_rfl) ?_ _
   go_wp2_with fail
   go_ret;exact ⟨by rw [← HE.out]; rfl, HU.out.then_non h4⟩
  ·
   have d0 : w2.cell? ⟨w.heap.size, 0, none⟩ = some (.int .i64 3) := d0
   have HR : Hid (res = (condNm (1 + (2 : Nat)) ++ [32]) ++ (vnF c.a ++ [32] ++ textF c.n)) := by show _ = _; rw [HF.out]; rfl
   have C1 := Lib.hid (fun W => rVarName_c c.a H.out.a0 H.out.a1 W);have C2 := Lib.hid (fun W => wText_c c.n H.out.n0 H.out.n1 W);have hz1 : (kstr (vnF c.a)).size ≤ 24 := ksz (by simp [vnF]);have hz2 : (kstr (textF c.n)).size ≤ 24 := ksz (by have := textF_len ⟨H.out.n0, H.out.n1⟩; omega)
   have HE : Hid ((s3 ++ kstr (vnF c.a) ++ ({ data := #[32] } : ByteArray)) ++ kstr (textF c.n) = kstr res) := by
    show _ = _;rw [HR.out, ← Hs3.out, HJ.out];exact catF
   obtain ⟨p1, Hp1⟩ := nm (kstr (vnF c.a));obtain ⟨p2, Hp2⟩ := nm (kstr (textF c.n));rw [Hp1.out] at C1 hz1 HE;rw [Hp2.out] at C2 hz2 HE;obtain ⟨ca, Hca⟩ := nm c.a;obtain ⟨cb, Hcb⟩ := nm c.n;rw [Hca.out] at d1 C1;rw [Hcb.out] at d3 C2
   go_upto_region 11 with fail
   obtain ⟨wD, HwD⟩ := nm w2.drew
   have uD : Upd Non w2 wD := by rw [← HwD.out]; exact Upd.refl.drew
   refine wp_region_held_drew (S := fun w' => w'.cell? ⟨w.heap.size, 1, none⟩ = some (.int .i64 ca) ∧ w'.cell? ⟨w.heap.size, 3, none⟩ = some (.int .i64 cb)) (by kernel_rfl) (by rw [HwD.out]; exact ⟨cell_upd d1 uD (fun f => f), cell_upd d3 uD (fun f => f)⟩) (fun hHeld => ?_)
   have d2 := d3;rw [HwD.out] at hHeld ⊢
   have hq1 : ¬ (9223372036854775807 < s3.size + p1.size) := by omega
   have hq2 : ¬ (9223372036854775807 < s3.size + p1.size + 1) := by omega
   have hq3 : ¬ (9223372036854775807 < s3.size + p1.size + 1 + p2.size) := by omega
   refine wpT 0 ?_
   try simp only [put_y, put_z]
   refine wpT 1 ?_
   try simp only [put_y, put_z]
   refine wpT 2 ?_
   try simp only [put_y, put_z]
   refine wpT 6 ?_
   try simp only [put_y, put_z]
   refine wpT 7 ?_
   try simp only [put_y, put_z]
   refine wpAnyH_ready (rs := [3]) (by kernel_rfl) (by simp) ?_;refine AllReadyH.cons rfl (fun K hK => ?_) AllReadyH.nil;go_simp;refine (C1.out _).mono ?_;rintro e w3 ⟨rfl, u3⟩;have h3 : Upd Non w2 w3 := uD.then_non u3
   go_wp2_with fail
   refine hK.out _ _ ?_ (fun hHeld => ?_)
   ·
    exact ⟨cell_upd d1 h3 (fun f => f), cell_upd d2 h3 (fun f => f)⟩
   clear hK K
   try simp only [put_y, put_z]
   refine wpT 4 ?_
   try simp only [put_y, put_z]
   refine wpT 5 ?_
   try simp only [put_y, put_z]
   refine wpAnyH_ready (rs := [8]) (by kernel_rfl) (by simp) ?_;refine AllReadyH.cons rfl (fun K hK => ?_) AllReadyH.nil;go_simp;refine (C2.out _).mono ?_;rintro e w4 ⟨rfl, u4⟩;have h4 : Upd Non w2 w4 := h3.then_non u4
   go_wp2_with fail
   refine hK.out _ _ ?_ (fun hHeld => ?_)
   ·
    exact ⟨cell_upd d1 h4 (fun f => f), cell_upd d2 h4 (fun f => f)⟩
   clear hK K
   try simp only [put_y, put_z]
   refine wpT 9 ?_
   try simp only [put_y, put_z]
   refine wpT 10 ?_
   try simp only [put_y, put_z]
   refine wpAnyH_done (by kernel_rfl) ?_ _
   go_wp2_with fail
   go_ret;exact ⟨by rw [← HE.out]; rfl, HU.out.then_non h4⟩
def PI (p : Pt) : Prop := ∀ q ∈ nodes p, I64 q.imm
structure RlI (R : Rl) : Prop where
 l : PI R.l
 r : PI R.r
 c : ∀ x ∈ R.conds, I64 x.n
theorem nodes_self (p : Pt) : p ∈ nodes p := by cases p; simp [nodes]
theorem nodesL_mem {q k : Pt} : ∀ {ks : List Pt}, k ∈ ks → q ∈ nodes k → q ∈ nodesL ks
 | x :: ks, hk, hq => by
  simp only [nodesL, List.mem_append]
  rcases List.mem_cons.1 hk with rfl | hk
  ·
   exact .inl hq
  ·
   exact .inr (nodesL_mem hk hq)
theorem PI.kid {p k : Pt} (h : PI p) (hk : k ∈ p.kids) : PI k := fun q hq => h q (by
 cases p
 simp only [nodes, List.mem_cons]
 exact .inr (nodesL_mem hk hq))
theorem oS_ops {op : Int} (h : (oSortsF op).2.2 = true) : op = 1 ∨ (4 ≤ op ∧ op < 32) := by
 rw [← allowed_ok] at h;simp only [allowedF, decide_eq_true_iff] at h;omega
theorem shp_fm (p : Pt) : ∀ (s m : Int) (n : Nat), shp p s m n = true → m ≤ 6 → n ≤ 6 → PI p → FmOk p := by
 induction p using Pt.ind with
 | h p ih =>
  intro s m n hs hm hn hi
  by_cases hv : p.v = 0
  ·
   rw [shp_op hv, Bool.and_eq_true, decide_eq_true_iff] at hs;obtain ⟨⟨h1, h2, _, h4⟩, h5⟩ := hs;have hI := hi p (nodes_self p)
   have hiv : p.iv ≤ 100 := by
    unfold pImmF at h4
    split at h4
    ·
     simp only [Bool.and_eq_true, decide_eq_true_iff] at h4; omega
    ·
     omega
   have hks : ∀ k ∈ p.kids, FmOk k := fun k hk => by
    obtain ⟨i, hi2, rfl⟩ := List.mem_iff_getElem.1 hk;exact ih _ hk _ m n (shpL_at hi2 h5) hm hn (hi.kid hk)
   cases p with
   | mk v op imm iv ks =>
    dsimp only [Pt.v, Pt.op, Pt.imm, Pt.iv, Pt.kids] at *
    rcases oS_ops h1 with rfl | ⟨a, b⟩
    ·
     exact .cst (by omega) hI.1 hI.2 hiv
    ·
     exact .app (by omega) a b hI.1 hI.2 hiv hks
  ·
   rw [shp_var hv, decide_eq_true_iff] at hs
   cases p with
   | mk v op imm iv ks =>
    dsimp only [Pt.v, Pt.op, Pt.imm, Pt.iv, Pt.kids] at *;exact .var (by omega) (by omega)
theorem cond_fm {c : Cd} {ss : List Int} {m : Int} (h : condF c ss m = true) (hs : ss.length ≤ 7) (hm : m ≤ 6) (hn : I64 c.n) : CdFm c := by
 unfold condF at h
 split at h
 ·
  simp only [isValF, Bool.and_eq_true, decide_eq_true_iff] at h; exact ⟨by omega, by omega, by omega, by omega, by omega, by omega, hn.1, hn.2⟩
 ·
  split at h
  ·
   simp only [isValF, Bool.and_eq_true, decide_eq_true_iff] at h; exact ⟨by omega, by omega, by omega, by omega, by omega, by omega, hn.1, hn.2⟩
  ·
   split at h
   ·
    simp only [isValF, Bool.and_eq_true, decide_eq_true_iff] at h; exact ⟨by omega, by omega, by omega, by omega, by omega, by omega, hn.1, hn.2⟩
   ·
    split at h
    ·
     simp only [isValF, isImmF, Bool.and_eq_true, decide_eq_true_iff] at h; exact ⟨by omega, by omega, by omega, by omega, by omega, by omega, hn.1, hn.2⟩
    ·
     split at h
     ·
      simp only [isImmF, Bool.and_eq_true, decide_eq_true_iff] at h; exact ⟨by omega, by omega, by omega, by omega, by omega, by omega, hn.1, hn.2⟩
     ·
      cases h
structure FmR (R : Rl) : Prop where
 l : FmOk R.l
 r : FmOk R.r
 c : ∀ x ∈ R.conds, CdFm x
 few : R.conds.length ≤ 6
 ls : R.l.size ≤ 24
 rs : R.r.size ≤ 24
 n : R.name.size ≤ 16
theorem impl_fm {r : Rl} (h : implF r = true) (hi : RlI r) : FmR r := by
 have k := imp_ok h;have hv := k.vars
 refine ⟨shp_fm _ _ _ _ k.shl k.imms.2 (by omega) hi.l, shp_fm _ _ _ _ k.shr k.imms.2 (by omega) hi.r, fun x hx => cond_fm (k.cnd x hx) (by simp; omega) k.imms.2 (hi.c x hx), k.few, k.sizes.1, k.sizes.2, ?_⟩
 have := k.name;simp only [nameF, Bool.and_eq_true, decide_eq_true_iff] at this;exact this.2.2
theorem fmtCs_len : ∀ {cs : List Cd} {b : Bool}, (∀ x ∈ cs, CdFm x) → (fmtCs cs b).length ≤ 44 * cs.length
 | [], b, _ => by simp [fmtCs]
 | c :: cs, b, h => by
  have e1 := fmtC_len (h c List.mem_cons_self);have e2 := fmtCs_len (cs := cs) (b := false) (fun x hx => h x (List.mem_cons_of_mem _ hx));simp only [fmtCs, List.length_append, List.length_cons]
  have : (if b = true then [32, 105, 102, 32] else ([44, 32] : Bs)).length ≤ 4 := by split <;> simp
  omega
theorem fmtCs_snoc (c : Cd) : ∀ (cs : List Cd) (b : Bool), fmtCs (cs ++ [c]) b = fmtCs cs b ++ ((if b && cs.isEmpty then [32, 105, 102, 32] else [44, 32]) ++ fmtC c)
 | [], b => by simp [fmtCs]
 | x :: cs, b => by simp [fmtCs, fmtCs_snoc c cs]
theorem fmtR_len {r : Rl} (h : FmR r) : (fmtR r).length ≤ 2000 := by
 have e1 := fmtF_len _ h.l;have e2 := fmtF_len _ h.r;have e3 := fmtCs_len (b := true) h.c;have e4 := h.few;have e5 := h.ls;have e6 := h.rs
 have e7 : (kx r.name).length ≤ 16 := by rw [kx_len]; exact h.n
 unfold fmtR;simp only [List.length_append, List.length_cons, List.length_nil];omega
theorem fmtRs_snoc (r : Rl) : ∀ L : List Rl, fmtRs (L ++ [r]) = fmtRs L ++ fmtR r
 | [] => by simp [fmtRs]
 | x :: L => by simp [fmtRs, fmtRs_snoc r L]
theorem fmtRs_len : ∀ {L : List Rl}, (∀ r ∈ L, FmR r) → (fmtRs L).length ≤ 2000 * L.length
 | [], _ => by simp [fmtRs]
 | r :: L, h => by
  have e1 := fmtR_len (h r List.mem_cons_self);have e2 := fmtRs_len (L := L) (fun x hx => h x (List.mem_cons_of_mem _ hx));simp only [fmtRs, List.length_append, List.length_cons];omega
end Go.Proofs.YtblkgjdhaibhgaaGreat
namespace Go.Proofs.YtblkgjdhaibhgaaGreat
open Go.RowKit
theorem strCells_u8 (s : ByteArray) : Lib.strCells s = u8s (kx s) := rfl
theorem run_apps {w : World} {A : Option Addr} {n c : Nat} {bs : Bs} (h : Own w 5 1 A n c (u8s bs)) {b0 : Nat} (hA : ∀ k, At A k → b0 ≤ k) (hb0 : b0 ≤ w.heap.size) (s : ByteArray) (hs : n + s.size ≤ 100000000000000) (ty : TypeId) :
  ∃ A' c' w', (Builtin.append_ #[57, 9] ty #[.slice A n c, .string s]).run Tryz.prog w = .ok (.slice A' (n + s.size) c') w' ∧ Own w' 5 1 A' (n + s.size) c' (u8s (bs ++ kx s)) ∧ Upd (At A) w w' ∧ (∀ k, At A' k → b0 ≤ k) := by
 obtain ⟨i, h1, h2, h3, h4⟩ := info_parts (show (Tryz.prog.info? 5).map (fun i => (i.zero, i.size, i.bytes)) = some (some (.int .u8 0), 1, 1) from by kernel_rfl)
 have hown : w.ownsRow b0 5 1 (.slice A n c) n (u8s bs) := by
  refine ⟨h.1, ?_⟩
  rcases h.2 with q | ⟨g, cap, cur, hv, _, r⟩
  ·
   exact .inl q
  ·
   injection hv with hv e2 e3
   subst hv e3;exact .inr ⟨g, c, cur, rfl, hA g (At.some_.2 rfl), r⟩
 obtain ⟨v', w', hr, h5, h6, h7⟩ := Lib.run_append_own_string (P := Tryz.prog) w b0 57 9 ty 5 i Tryz.underlying57 Tryz.underlying9 h1 h2 h3 h4 (.slice A n c) n (u8s bs) hown s (by simp only [maxLen]; omega) (by omega) hb0
 rw [strCells_u8] at h5
 have hu : Upd (At A) w w' := (Upd.of_grown h6).mono (fun k _ hk => by
  cases A with
  | none => simp [Value.ownBlock] at hk
  | some a => exact ⟨a.off, a.spot, by simp [Value.ownBlock] at hk; subst hk; rfl⟩)
 have hcat : u8s bs ++ u8s (kx s) = u8s (bs ++ kx s) := by simp [u8s]
 rw [hcat] at h5
 rcases h5.2 with ⟨rfl, h0⟩ | ⟨g, cap, cur, rfl, hbg, r⟩
 ·
  refine ⟨none, 0, w', ?_, ?_, hu, fun k hk => (At.none_ hk).elim⟩
  ·
   rw [h0]; exact hr
  ·
   refine ⟨h5.1, .inl ⟨?_, h0⟩⟩;rw [h0]
 ·
  exact ⟨some ⟨g, 0, none⟩, cap, w', hr, ⟨h5.1, .inr ⟨g, cap, cur, rfl, Nat.zero_le _, r⟩⟩, hu, fun k hk => by rw [At.some_] at hk; subst hk; exact hbg⟩
theorem wp_apps {w : World} {o : Oper} {a : Act} {K : Act → World → Prop} {Q : Exit → Act → World → Prop} {s x : Operand}
  (ho : o.op = .call { callee := .builtin .append, args := #[s, x], argTypes := #[57, 9] }) {A : Option Addr} {n c : Nat} {bs : Bs} (hs : a.eval s = .slice A n c) (h : Own w 5 1 A n c (u8s bs)) {b0 : Nat} (hA : ∀ k, At A k → b0 ≤ k) (hb0 : b0 ≤ w.heap.size) {str : ByteArray} (hx : a.eval x = .string str) (hn : n + str.size ≤ 100000000000000)
  (k : ∀ A' c' w', Own w' 5 1 A' (n + str.size) c' (u8s (bs ++ kx str)) → Upd (At A) w w' → (∀ k, At A' k → b0 ≤ k) → K (a.put o.dst (.slice A' (n + str.size) c')) w') : o.wp Tryz.prog a w K Q := by
 obtain ⟨A', c', w', hrun, h2, h3, h4⟩ := run_apps h hA hb0 str hn o.type;unfold Oper.wp execOp;simp only [ho, resolve, invoke, builtin, Sem.run_bind, Sem.run_pure, Result.andThen_ok, List.map_toArray, List.map_cons, List.map_nil, hs, hx, hrun];exact k A' c' w' h2 h3 h4
theorem step_apps {w : World} {ops : Array Oper} {o : Oper} {a : Act} {K : Act → World → Prop} {Q : Exit → Act → World → Prop} {E : Prop} (hgd : o.guard = none) {s x : Operand}
  (ho : o.op = .call { callee := .builtin .append, args := #[s, x], argTypes := #[57, 9] }) {A : Option Addr} {n c : Nat} {bs : Bs} (hs : a.eval s = .slice A n c) (h : Own w 5 1 A n c (u8s bs)) {b0 : Nat} (hA : ∀ k, At A k → b0 ≤ k) (hb0 : b0 ≤ w.heap.size) {str : ByteArray} (hx : a.eval x = .string str) (hn : n + str.size ≤ 100000000000000)
  (k : ∀ A' c' w', Own w' 5 1 A' (n + str.size) c' (u8s (bs ++ kx str)) → Upd (At A) w w' → (∀ k, At A' k → b0 ≤ k) → K (a.put o.dst (.slice A' (n + str.size) c')) w') :
  if Region.wanted o (yielded ops a.tmps) = true then Oper.wp Tryz.prog o a w K Q else E := by
 have hw : Region.wanted o (yielded ops a.tmps) = true := by simp [Region.wanted, hgd]
 rw [if_pos hw];exact wp_apps ho hs h hA hb0 hx hn k
theorem wpList_apps {w : World} {ops : Array Oper} {rest : List Oper} {o : Oper} {a : Act} {Q : Exit → Act → World → Prop} (hgd : o.guard = none) {s x : Operand}
  (ho : o.op = .call { callee := .builtin .append, args := #[s, x], argTypes := #[57, 9] }) {A : Option Addr} {n c : Nat} {bs : Bs} (hs : a.eval s = .slice A n c) (h : Own w 5 1 A n c (u8s bs)) {b0 : Nat} (hA : ∀ k, At A k → b0 ≤ k) (hb0 : b0 ≤ w.heap.size) {str : ByteArray} (hx : a.eval x = .string str) (hn : n + str.size ≤ 100000000000000)
  (k : ∀ A' c' w', Own w' 5 1 A' (n + str.size) c' (u8s (bs ++ kx str)) → Upd (At A) w w' → (∀ k, At A' k → b0 ≤ k) → wpList Tryz.prog ops Q rest (a.put o.dst (.slice A' (n + str.size) c')) w') : wpList Tryz.prog ops Q (o :: rest) a w :=
 wpList_plain hgd fun _ hK => wp_apps ho hs h hA hb0 hx hn fun A' c' w' h2 h3 h4 => hK _ _ (k A' c' w' h2 h3 h4)
theorem conv_own {w : World} {A : Option Addr} {n c : Nat} {bs : Bs} (h : Own w 5 1 A n c (u8s bs)) (hn : n = bs.length) : (convert 57 9 (.slice A n c)).run Tryz.prog w = .ok (.string (kstr bs)) w := by
 have hs : Sl w (At A) A ((bs.map fun b => (b.toNat : Int)).map fun x => Value.int .u8 x) := by
  have := Own.sl h;rw [show (bs.map fun b => (b.toNat : Int)).map (fun x => Value.int .u8 x) = u8s bs by simp [u8s]];exact this
 have := run_str (P := Tryz.prog) (src := 57) (dst := 9) Tryz.underlying57 Tryz.underlying5 Tryz.underlying9 (n := n) (c := c) hs (by simpa using hn);rw [bstr_ub] at this;exact this
mutual
def ptE : Pt → Pt → Bool
 | .mk v op imm iv ks, q => decide (v = q.v ∧ op = q.op ∧ imm = q.imm ∧ iv = q.iv ∧ ks.length = q.kids.length) && ptEL ks q.kids
def ptEL : List Pt → List Pt → Bool
 | [], _ => true
 | k :: ks, ls => match ls with
  | [] => true
  | l :: ls => ptE k l && ptEL ks ls
end
theorem ptE_eq (p q : Pt) : ptE p q = (decide (p.v = q.v ∧ p.op = q.op ∧ p.imm = q.imm ∧ p.iv = q.iv ∧ p.kids.length = q.kids.length) && ptEL p.kids q.kids) := by
 cases p
 rw [ptE];rfl
theorem ptEL_of : ∀ {ks ls : List Pt}, (∀ i (h : i < ks.length) (h2 : i < ls.length), ptE ks[i] ls[i] = true) → ptEL ks ls = true
 | [], _, _ => by simp [ptEL]
 | k :: ks, [], _ => by simp [ptEL]
 | k :: ks, l :: ls, h => by
  simp only [ptEL, Bool.and_eq_true];exact ⟨h 0 (Nat.zero_lt_succ _) (Nat.zero_lt_succ _), ptEL_of fun i h1 h2 => h (i + 1) (Nat.succ_lt_succ h1) (Nat.succ_lt_succ h2)⟩
theorem ptEL_no : ∀ {ks ls : List Pt} {i : Nat} (h1 : i < ks.length) (h2 : i < ls.length), ptE ks[i] ls[i] = false → ptEL ks ls = false
 | k :: ks, l :: ls, 0, _, _, h => by
  simp only [ptEL, Bool.and_eq_false_iff];exact .inl h
 | k :: ks, l :: ls, i + 1, h1, h2, h => by
  simp only [ptEL, Bool.and_eq_false_iff];exact .inr (ptEL_no (Nat.lt_of_succ_lt_succ h1) (Nat.lt_of_succ_lt_succ h2) h)
theorem ptE_refl (p : Pt) : ptE p p = true := by
 induction p using Pt.ind with
 | h p ih =>
  rw [ptE_eq, Bool.and_eq_true];exact ⟨by simp, ptEL_of fun i h _ => ih _ (List.getElem_mem h)⟩
def rlE (r s : Rl) : Bool := decide (r.vars = s.vars ∧ r.imms = s.imms ∧ r.conds.length = s.conds.length) && ptE r.l s.l && ptE r.r s.r && decide (r.conds = s.conds)
theorem rlE_refl (r : Rl) : rlE r r = true := by simp [rlE, ptE_refl]
def rlsE : List Rl → List Rl → Bool
 | [], [] => true
 | r :: rs, s :: ss => decide (r.name = s.name) && rlE r s && rlsE rs ss
 | _, _ => false
theorem rlsE_refl : ∀ l : List Rl, rlsE l l = true
 | [] => rfl
 | r :: l => by simp [rlsE, rlE_refl, rlsE_refl l]
theorem rlsE_len : ∀ {a b : List Rl}, rlsE a b = true → a.length = b.length
 | [], [], _ => rfl
 | r :: rs, s :: ss, h => by
  simp only [rlsE, Bool.and_eq_true] at h;simp [rlsE_len h.2]
theorem rlsE_of : ∀ {a b : List Rl}, a.length = b.length → (∀ i (h : i < a.length) (h2 : i < b.length), a[i].name = b[i].name ∧ rlE a[i] b[i] = true) → rlsE a b = true
 | [], [], _, _ => rfl
 | [], _ :: _, h, _ => by simp at h
 | _ :: _, [], h, _ => by simp at h
 | r :: rs, s :: ss, h, k => by
  simp only [rlsE, Bool.and_eq_true, decide_eq_true_eq];exact ⟨k 0 (Nat.zero_lt_succ _) (Nat.zero_lt_succ _), rlsE_of (by simpa using h) fun i h1 h2 => k (i + 1) (Nat.succ_lt_succ h1) (Nat.succ_lt_succ h2)⟩
theorem rlsE_no : ∀ {a b : List Rl} {i : Nat} (h1 : i < a.length) (h2 : i < b.length), (¬ a[i].name = b[i].name ∨ rlE a[i] b[i] = false) → rlsE a b = false
 | r :: rs, s :: ss, 0, _, _, h => by
  rcases h with h | h
  ·
   have h : ¬ r.name = s.name := h;simp [rlsE, h]
  ·
   have h : rlE r s = false := h;simp [rlsE, h]
 | r :: rs, s :: ss, i + 1, h1, h2, h => by
  have := rlsE_no (a := rs) (b := ss) (i := i) (Nat.lt_of_succ_lt_succ h1) (Nat.lt_of_succ_lt_succ h2) h;simp [rlsE, this]
theorem CondsV.take {w : World} {F : Nat → Prop} {A : Option Addr} {cs : List Cd} (h : CondsV w F A cs) {i : Nat} (hi : i < cs.length) : ∃ b o, A = some ⟨b, o, none⟩ ∧ b < w.heap.size ∧ w.cell? ⟨b, o + i * 4, none⟩ = some (.int .i64 cs[i].kind) ∧ w.cell? ⟨b, o + i * 4 + 1, none⟩ = some (.int .i64 cs[i].a) ∧ w.cell? ⟨b, o + i * 4 + 2, none⟩ = some (.int .i64 cs[i].b) ∧ w.cell? ⟨b, o + i * 4 + 3, none⟩ = some (.int .i64 cs[i].n) := by
 obtain ⟨b, o, h1, _, h2, h3⟩ := h.at_ hi;exact ⟨b, o, h1, h2, h3⟩
def hdF (r : Rl) : Bs := [114, 117, 108, 101, 32] ++ kx r.name ++ [58, 32] ++ fmtF r.l ++ [32, 61, 62, 32] ++ fmtF r.r
theorem fmtR_hd (r : Rl) : fmtR r = hdF r ++ fmtCs r.conds true ++ [59, 10] := rfl
theorem hd_eq (r : Rl) : kx ((((({ data := #[114, 117, 108, 101, 32] } : ByteArray) ++ r.name) ++ { data := #[58, 32] }) ++ kstr (fmtF r.l)) ++ { data := #[32, 61, 62, 32] } ++ kstr (fmtF r.r)) = hdF r := by
 simp [kx, kstr, hdF]
theorem hdF_len {r : Rl} (h : FmR r) : (hdF r).length ≤ 1600 := by
 have e1 := fmtF_len _ h.l;have e2 := fmtF_len _ h.r;have e5 := h.ls;have e6 := h.rs
 have e7 : (kx r.name).length ≤ 16 := by rw [kx_len]; exact h.n
 unfold hdF;simp only [List.length_append, List.length_cons, List.length_nil];omega
set_option maxRecDepth 100000 in
set_option maxHeartbeats 2000000 in
theorem rPrint_c (w : World) (F : Nat → Prop) (A : Option Addr) (c : Nat) (L : List Rl) (hv : RlsV w F A L) (hz : ∀ r ∈ L, RlSz r) (hi : ∀ r ∈ L, RlI r) (hn : L.length ≤ 1000000) :
  Calls Tryz.prog 14 #[.slice A L.length c] w fun e w' => e = .returned (.string (kstr (printF L))) ∧ Upd Non w w' := by
 have HV := Lib.hid hv;have HZ := Lib.hid hz;have HI := Lib.hid hi;obtain ⟨res, Hres⟩ := nm (kstr (printF L));rw [Hres.out];obtain ⟨n, Hn⟩ := nm L.length;rw [Hn.out] at hn ⊢;clear hv hz hi;go_enter Tryz.func14, Tryz.ntmps14
 go_wp2_with fail
 go_loopg [3, 5, 6, 7, 8, 11] n (fun g v _ _ _ _ iv wr => ∃ (k : Nat) (BA : Option Addr) (bc : Nat) (bs : Bs), Hid (g = n - k) ∧ k ≤ n ∧ iv = .int .i64 k ∧ v = .slice BA bs.length bc ∧ Hid (Own wr 5 1 BA bs.length bc (u8s bs)) ∧ Hid (∀ q, At BA q → w.heap.size ≤ q) ∧ Hid (bs = fmtRs (L.take k)) ∧ bs.length ≤ 2000 * k ∧ Hid (∀ r ∈ L.take k, implF r = true) ∧ Hid (Upd Non w wr))
 case atStart => exact ⟨0, none, 0, [], rfl, Nat.zero_le _, rfl, rfl, Own.none_, fun _ q => (At.none_ q).elim, rfl, by simp, fun r hr => by simp at hr, Upd.refl⟩
 case round =>
  obtain ⟨k, BA, bc, bs, Hg, hk, rfl, rfl, HO, HA, HB, hbl, HI2, HU⟩ := hrel
  by_cases hlt : k < n
  ·
   have hkl : k < L.length := by rw [Hn.out]; exact hlt
   obtain ⟨b, o, a, rfl, _, hbw0, hat0, hrk0⟩ := HV.out.at_ hkl;have hbw : b < wr.heap.size := Nat.lt_of_lt_of_le hbw0 HU.out.size;have hat := hat0.upd HU.out (fun f => f);have hrk := hrk0.upd HU.out (fun _ _ _ f => f);have HRW := Lib.hid hrk0;clear hat0 hrk0 hbw0;unfold RlAt at hat;have HRZ := Lib.hid (HZ.out _ (List.getElem_mem hkl));have HRI := Lib.hid (HI.out _ (List.getElem_mem hkl))
   have HTK : Hid (L.take (k + 1) = L.take k ++ [L[k]]) := take_snoc' hkl;have HME : Hid (L[k] ∈ L) := List.getElem_mem hkl;generalize L[k] = r at *;obtain ⟨x0, x1, x2, x3, x4, x5, x6, x7, x8, x9, x10, x11, x12, x13⟩ := hat;have CV := Lib.hid (rlValid_c r a F _ (hrk.upd (Upd.refl.alloc (S := Non) (.cells (rlCells r a) 43)) (fun _ _ _ f => f)) HRZ.out);have hb3 := Blk.new wr 43 (rlCells r a)
   have HB3 := Lib.hid hb3;have HRK := Lib.hid hrk;unfold rlv rlCells at CV;obtain ⟨v, Hv⟩ := nm (implF r);rw [Hv.out] at CV;clear hb3 hrk
   go_wp2_with fail
   refine CV.out.mono ?_;rintro e w4 ⟨rfl, hu4⟩;clear CV x0 x1 x2 x3 x4 x5 x6 x7 x8 x9 x10 x11 x12 x13;have HU4 := Lib.hid ((HU.out.alloc (.cells (rlCells r a) 43)).then_non hu4);have HB4 := Lib.hid (HB3.out.upd hu4 (fun f => f));have u34 : Upd Non wr w4 := (Upd.refl.alloc (S := Non) (.cells (rlCells r a) 43)).then_non hu4;have HO4 := Lib.hid (Own.upd HO.out u34 (fun _ _ f => f))
   have HRK4 := Lib.hid (HRK.out.upd u34 (fun _ _ _ f => f));clear HO HB3 HRK hu4 u34
   cases v with
   | false =>
    go_wp2_with fail
    go_ret;refine ⟨?_, HU4.out⟩;rw [← Hres.out, show printF L = [] from if_neg (fun q => by have := List.all_eq_true.1 q r HME.out; rw [Hv.out] at this; cases this)];rfl
   | true =>
    have HF := Lib.hid (impl_fm Hv.out HRI.out);have hnl : r.name.size ≤ 16 := HF.out.n;have hlz : r.l.size ≤ 24 := HF.out.ls;have hrz : r.r.size ≤ 24 := HF.out.rs;have hl1 : (kstr (fmtF r.l)).size ≤ 720 := ksz (by have := fmtF_len _ HF.out.l; omega);have hl2 : (kstr (fmtF r.r)).size ≤ 720 := ksz (by have := fmtF_len _ HF.out.r; omega)
    have CL := Lib.hid (fun W (u : Upd Non w4 W) => rFormat_c r.l W F a.la a.lc (PtK.upd u (fun _ _ _ f => f) _ _ _ HRK4.out.l) HF.out.l (by omega));have CR := Lib.hid (fun W (u : Upd Non w4 W) => rFormat_c r.r W F a.ra a.rc (PtK.upd u (fun _ _ _ f => f) _ _ _ HRK4.out.r) HF.out.r (by omega));have HE := Lib.hid (hd_eq r);have hsz : (hdF r).length ≤ 1600 := hdF_len HF.out
    obtain ⟨f1, Hf1⟩ := nm (kstr (fmtF r.l));obtain ⟨f2, Hf2⟩ := nm (kstr (fmtF r.r));rw [Hf1.out] at CL HE hl1;rw [Hf2.out] at CR HE hl2;unfold pv at CL CR;have HAO := HA
    go_upto_region 7 with fail
    go_cut [3] (fun v wx => ∃ (BB : Option Addr) (bb : Nat) (bs2 : Bs), v = .slice BB bs2.length bb ∧ Hid (Own wx 5 1 BB bs2.length bb (u8s bs2)) ∧ Hid (∀ q, At BB q → w.heap.size ≤ q) ∧ Hid (bs2 = bs ++ hdF r) ∧ Hid (Upd (At BA) w4 wx))
    case first =>
     obtain ⟨wD, HwD⟩ := nm w4.drew
     have uD : Upd Non w4 wD := by rw [← HwD.out]; exact Upd.refl.drew
     have hbD := HB4.out.upd uD (fun f => f);unfold rlCells at hbD
     have hq1 : ¬ (9223372036854775807 < 5 + r.name.size) := by omega
     have hq2 : ¬ (9223372036854775807 < 5 + r.name.size + 2) := by omega
     have hq3 : ¬ (9223372036854775807 < 5 + r.name.size + 2 + f1.size) := by omega
     have hq4 : ¬ (9223372036854775807 < 5 + r.name.size + 2 + f1.size + 4) := by omega
     have hq5 : ¬ (9223372036854775807 < 5 + r.name.size + 2 + f1.size + 4 + f2.size) := by omega
     refine wp_region_held_drew (S := fun w' => w'.cell? ⟨wr.heap.size, 0, none⟩ = some (.string r.name) ∧ w'.cell? ⟨wr.heap.size, 1, none⟩ = some (.int .i64 r.l.v) ∧ w'.cell? ⟨wr.heap.size, 2, none⟩ = some (.int .i64 r.l.op) ∧ w'.cell? ⟨wr.heap.size, 3, none⟩ = some (.int .i64 r.l.imm) ∧ w'.cell? ⟨wr.heap.size, 4, none⟩ = some (.int .i64 r.l.iv) ∧ w'.cell? ⟨wr.heap.size, 5, none⟩ = some (.slice a.la r.l.kids.length a.lc) ∧ w'.cell? ⟨wr.heap.size, 6, none⟩ = some (.int .i64 r.r.v) ∧ w'.cell? ⟨wr.heap.size, 7, none⟩ = some (.int .i64 r.r.op) ∧ w'.cell? ⟨wr.heap.size, 8, none⟩ = some (.int .i64 r.r.imm) ∧ w'.cell? ⟨wr.heap.size, 9, none⟩ = some (.int .i64 r.r.iv) ∧ w'.cell? ⟨wr.heap.size, 10, none⟩ = some (.slice a.ra r.r.kids.length a.rc)) (by kernel_rfl) (by rw [HwD.out]; exact ⟨hbD.cell 0, hbD.cell 1, hbD.cell 2, hbD.cell 3, hbD.cell 4, hbD.cell 5, hbD.cell 6, hbD.cell 7, hbD.cell 8, hbD.cell 9, hbD.cell 10⟩) (fun hHeld => ?_)
     rw [HwD.out] at hHeld ⊢;refine wpT 0 ?_
     try simp only [put_y, put_z]
     refine wpT 1 ?_
     try simp only [put_y, put_z]
     refine wpT 2 ?_
     try simp only [put_y, put_z]
     refine wpT 3 ?_
     try simp only [put_y, put_z]
     refine wpT 4 ?_
     try simp only [put_y, put_z]
     refine wpT 5 ?_
     try simp only [put_y, put_z]
     refine wpT 6 ?_
     try simp only [put_y, put_z]
     refine wpT 10 ?_
     try simp only [put_y, put_z]
     refine wpT 11 ?_
     try simp only [put_y, put_z]
     refine wpAnyH_ready (rs := [7]) (by kernel_rfl) (by simp) ?_;refine AllReadyH.cons rfl (fun K hK => ?_) AllReadyH.nil;go_simp;refine (CL.out _ uD).mono ?_;rintro e w5 ⟨rfl, u5⟩;have h5 : Upd Non w4 w5 := uD.then_non u5;have hb5 := HB4.out.upd h5 (fun f => f);unfold rlCells at hb5
     go_wp2_with fail
     refine hK.out _ _ ?_ (fun hHeld => ?_)
     ·
      exact ⟨hb5.cell 0, hb5.cell 1, hb5.cell 2, hb5.cell 3, hb5.cell 4, hb5.cell 5, hb5.cell 6, hb5.cell 7, hb5.cell 8, hb5.cell 9, hb5.cell 10⟩
     clear hK K
     try simp only [put_y, put_z]
     refine wpT 8 ?_
     try simp only [put_y, put_z]
     refine wpT 9 ?_
     try simp only [put_y, put_z]
     refine wpAnyH_ready (rs := [12]) (by kernel_rfl) (by simp) ?_;refine AllReadyH.cons rfl (fun K hK => ?_) AllReadyH.nil;go_simp;refine (CR.out _ h5).mono ?_;rintro e w6 ⟨rfl, u6⟩;have h6 : Upd Non w4 w6 := h5.then_non u6;have hb6 := HB4.out.upd h6 (fun f => f);unfold rlCells at hb6
     go_wp2_with fail
     refine hK.out _ _ ?_ (fun hHeld => ?_)
     ·
      exact ⟨hb6.cell 0, hb6.cell 1, hb6.cell 2, hb6.cell 3, hb6.cell 4, hb6.cell 5, hb6.cell 6, hb6.cell 7, hb6.cell 8, hb6.cell 9, hb6.cell 10⟩
     clear hK K
     try simp only [put_y, put_z]
     refine wpT 13 ?_
     try simp only [put_y, put_z]
     refine wpAnyH_ready (rs := [14]) (by kernel_rfl) (by simp) ?_;refine AllReadyH.cons rfl (fun K hK => ?_) AllReadyH.nil;have ho6 := Own.upd HO4.out h6 (fun _ _ f => f);have hs6 := h6.size;have hU6 := HU4.out.size
     have hsq : ((((({ data := #[114, 117, 108, 101, 32] } : ByteArray) ++ r.name) ++ { data := #[58, 32] }) ++ f1) ++ { data := #[32, 61, 62, 32] } ++ f2).size ≤ 1600 := by rw [← kx_len, HE.out]; exact hsz
     refine step_apps rfl rfl rfl ho6 HA.out (by omega) rfl (by omega) ?_;intro BB bb w7 ho7 hu7 hat7;rw [HE.out] at ho7;have h7 : Upd (At BA) w4 w7 := (h6.mono (fun _ _ f => f.elim)).trans hu7 (fun _ _ q => q);have hne : ¬ At BA wr.heap.size := Own.ne_blk ho6 hb6 (by decide);have hb7 := hb6.upd hu7 hne;refine hK.out _ _ ?_ (fun hHeld => ?_)
     ·
      exact ⟨hb7.cell 0, hb7.cell 1, hb7.cell 2, hb7.cell 3, hb7.cell 4, hb7.cell 5, hb7.cell 6, hb7.cell 7, hb7.cell 8, hb7.cell 9, hb7.cell 10⟩
     clear hK K
     try simp only [put_y, put_z]
     refine wpT 15 ?_
     try simp only [put_y, put_z]
     refine wpAnyH_done (by kernel_rfl) ?_ _
     have HLE : Hid ((((((({ data := #[114, 117, 108, 101, 32] } : ByteArray) ++ r.name) ++ { data := #[58, 32] }) ++ f1) ++ { data := #[32, 61, 62, 32] } ++ f2).size = (hdF r).length)) := by show _ = _; rw [← kx_len, HE.out]
     have HLS : Hid (5 + r.name.size + 2 + f1.size + 4 + f2.size = (hdF r).length) := by
      show _ = _;rw [← HLE.out];simp only [ByteArray.size_append', ByteArray.size_mk'];rfl
     have HO7 := Lib.hid ho7;have HU7 := Lib.hid h7;have HA7 := Lib.hid hat7;clear ho7 hu7 hat7 h7 hb7 hb6 hb5 hbD ho6 h6 h5 uD hq1 hq2 hq3 hq4 hq5
     go_wp2_with fail
     go_meet
     case rel =>
      refine ⟨BB, bb, bs ++ hdF r, ?_, ?_, HA7, rfl, HU7⟩
      ·
       rw [List.length_append, ← HLS.out]
      ·
       show Own _ _ _ _ _ _ _;have := HO7.out;rw [HLE.out] at this;rw [List.length_append];exact this
    case rest =>
     clear CL CR HE hl1 hl2;obtain ⟨BB, bb, bs2, rfl, HO, HA, HBS, HUC⟩ := hcut;have hne : ¬ At BA wr.heap.size := Own.ne_blk HO4.out HB4.out (by decide);have hbc := HB4.out.upd HUC.out hne;unfold rlCells at hbc;have c11 := hbc.cell 11;have hwlt : w.heap.size ≤ wr.heap.size := HU.out.size;have HUW : Hid (Upd Non w wc) := HU4.out.trans HUC.out (fun q hq e => by have := HAO.out q e; omega)
     obtain ⟨m, Hm⟩ := nm r.conds.length;obtain ⟨ca, Hca⟩ := nm a.ca;rw [Hm.out, Hca.out] at c11
     have hm6 : m ≤ 6 := by rw [← Hm.out]; exact HF.out.few
     have hb2l : bs2.length ≤ 2000 * k + 1600 := by rw [HBS.out, List.length_append]; omega
     clear hbc
     go_wp2_with fail
     go_loopg [3, 6, 7, 8, 36] m (fun g v _ _ _ iv wq => ∃ (q : Nat) (BB : Option Addr) (bb : Nat) (b3 : Bs), Hid (g = m - q) ∧ q ≤ m ∧ iv = .int .i64 q ∧ v = .slice BB b3.length bb ∧ Hid (Own wq 5 1 BB b3.length bb (u8s b3)) ∧ Hid (∀ q, At BB q → w.heap.size ≤ q) ∧ Hid (b3 = bs2 ++ fmtCs (r.conds.take q) true) ∧ b3.length ≤ bs2.length + 50 * q ∧ Hid (Upd Non w wq))
     case atStart => exact ⟨0, BB, bb, bs2, rfl, Nat.zero_le _, rfl, rfl, HO, HA, by show _ = _; simp [fmtCs], by omega, HUW⟩
     case round =>
      clear HO HA HUC HUW hne c11;obtain ⟨q, BB, bb, b3, Hgq, hq, rfl, rfl, HO, HA, HB3, hb3l, HUQ⟩ := hrel
      by_cases hqt : q < m
      ·
       have hql : q < r.conds.length := by rw [Hm.out]; exact hqt
       have htk := (HRW.out.c.upd HUQ.out (fun _ _ _ f => f)).take hql;rw [Hca.out] at htk;obtain ⟨b', o', rfl, hbw', y0, y1, y2, y3⟩ := htk;have HCF := Lib.hid (HF.out.c _ (List.getElem_mem hql));have HTC : Hid (r.conds.take (q + 1) = r.conds.take q ++ [r.conds[q]]) := take_snoc' hql;generalize r.conds[q] = cd at *
       have CFC := Lib.hid (rFormatCond_c cd HCF.out (wr.alloc (.cells #[.int .i64 cd.kind, .int .i64 cd.a, .int .i64 cd.b, .int .i64 cd.n] 69)));have hzc : (kstr (fmtC cd)).size ≤ 40 := ksz (fmtC_len HCF.out);have HKC : Hid (kx (kstr (fmtC cd)) = fmtC cd) := kx_kstr _;obtain ⟨fc, Hfc⟩ := nm (kstr (fmtC cd));rw [Hfc.out] at CFC hzc HKC
       by_cases hq0 : q = 0
       ·
        have tq : ((q : Int) == 0) = true := by simp; omega
        have HE : Hid (kx (({ data := #[32, 105, 102, 32] } : ByteArray) ++ fc) = (if true && (r.conds.take q).isEmpty then [32, 105, 102, 32] else [44, 32]) ++ fmtC cd) := by
         show _ = _;rw [show (true && (r.conds.take q).isEmpty) = true by rw [hq0]; rfl, if_pos rfl];rw [← HKC.out];simp [kx]
        have hsz : (({ data := #[32, 105, 102, 32] } : ByteArray) ++ fc).size ≤ 44 := by rw [ByteArray.size_append']; show 4 + fc.size ≤ 44; omega
        clear hq0;have hsl : w.heap.size ≤ wr.heap.size := HUQ.out.size
        go_wp2_with fail
        refine CFC.out.mono ?_;rintro e w8 ⟨rfl, hu8⟩;have ua : Upd Non wr w8 := (Upd.refl.alloc (S := Non) (.cells #[.int .i64 cd.kind, .int .i64 cd.a, .int .i64 cd.b, .int .i64 cd.n] 69)).then_non hu8;have hsl8 : w.heap.size ≤ w8.heap.size := Nat.le_trans hsl ua.size;have ho8 := Own.upd HO.out ua (fun _ _ f => f);clear CFC hu8 y0 y1 y2 y3
        go_wp2_with (at_builtin; refine wpList_apps rfl rfl rfl ho8 HA.out hsl8 rfl (by omega) ?_; intro B4 b4 w9 ho9 hu9 hat9)
        rw [HE.out] at ho9;have HU9 : Hid (Upd Non w w9) := (HUQ.out.then_non ua).trans hu9 (fun j hj e => by have := HA.out j e; omega)
        have HLN : Hid ((({ data := #[32, 105, 102, 32] } : ByteArray) ++ fc).size = ((if true && (r.conds.take q).isEmpty then [32, 105, 102, 32] else [44, 32]) ++ fmtC cd).length) := by show _ = _; rw [← HE.out, kx_len]
        have HLM : Hid (4 + fc.size = ((if true && (r.conds.take q).isEmpty then [32, 105, 102, 32] else [44, 32]) ++ fmtC cd).length) := by
         show _ = _;rw [← HLN.out, ByteArray.size_append'];rfl
        have hs44 : 4 + fc.size ≤ 44 := by omega
        rw [HLN.out] at ho9;have HO9 := Lib.hid ho9;have HA9 := Lib.hid hat9;clear ho9 hu9 hat9 ho8 ua hsz
        go_roundg (m - (q + 1))
        case measure => rw [Hgq.out]; omega
        case rel =>
         refine ⟨q + 1, B4, b4, b3 ++ ((if true && (r.conds.take q).isEmpty then [32, 105, 102, 32] else [44, 32]) ++ fmtC cd), rfl, by omega, by go_num, by rw [List.length_append, ← HLM.out], ?_, HA9.out, ?_, ?_, HU9⟩
         ·
          show Own _ _ _ _ _ _ _;rw [List.length_append];exact HO9.out
         ·
          show _ = _;rw [HTC.out, fmtCs_snoc, HB3.out, List.append_assoc]
         ·
          rw [List.length_append, ← HLM.out];omega
       ·
        have tq : ((q : Int) == 0) = false := by simp; omega
        have HE : Hid (kx (({ data := #[44, 32] } : ByteArray) ++ fc) = (if true && (r.conds.take q).isEmpty then [32, 105, 102, 32] else [44, 32]) ++ fmtC cd) := by
         show _ = _
         rw [show (true && (r.conds.take q).isEmpty) = false by rw [Bool.true_and, List.isEmpty_eq_false_iff]; intro ht; have := congrArg List.length ht; rw [List.length_take] at this; simp only [List.length_nil] at this; omega, if_neg (by decide)]
         rw [← HKC.out];simp [kx]
        have hsz : (({ data := #[44, 32] } : ByteArray) ++ fc).size ≤ 44 := by rw [ByteArray.size_append']; show 2 + fc.size ≤ 44; omega
        clear hq0;have hsl : w.heap.size ≤ wr.heap.size := HUQ.out.size
        go_wp2_with fail
        refine CFC.out.mono ?_;rintro e w8 ⟨rfl, hu8⟩;have ua : Upd Non wr w8 := (Upd.refl.alloc (S := Non) (.cells #[.int .i64 cd.kind, .int .i64 cd.a, .int .i64 cd.b, .int .i64 cd.n] 69)).then_non hu8;have hsl8 : w.heap.size ≤ w8.heap.size := Nat.le_trans hsl ua.size;have ho8 := Own.upd HO.out ua (fun _ _ f => f);clear CFC hu8 y0 y1 y2 y3
        go_wp2_with (at_builtin; refine wpList_apps rfl rfl rfl ho8 HA.out hsl8 rfl (by omega) ?_; intro B4 b4 w9 ho9 hu9 hat9)
        rw [HE.out] at ho9;have HU9 : Hid (Upd Non w w9) := (HUQ.out.then_non ua).trans hu9 (fun j hj e => by have := HA.out j e; omega)
        have HLN : Hid ((({ data := #[44, 32] } : ByteArray) ++ fc).size = ((if true && (r.conds.take q).isEmpty then [32, 105, 102, 32] else [44, 32]) ++ fmtC cd).length) := by show _ = _; rw [← HE.out, kx_len]
        have HLM : Hid (2 + fc.size = ((if true && (r.conds.take q).isEmpty then [32, 105, 102, 32] else [44, 32]) ++ fmtC cd).length) := by
         show _ = _;rw [← HLN.out, ByteArray.size_append'];rfl
        have hs44 : 2 + fc.size ≤ 44 := by omega
        rw [HLN.out] at ho9;have HO9 := Lib.hid ho9;have HA9 := Lib.hid hat9;clear ho9 hu9 hat9 ho8 ua hsz
        go_roundg (m - (q + 1))
        case measure => rw [Hgq.out]; omega
        case rel =>
         refine ⟨q + 1, B4, b4, b3 ++ ((if true && (r.conds.take q).isEmpty then [32, 105, 102, 32] else [44, 32]) ++ fmtC cd), rfl, by omega, by go_num, by rw [List.length_append, ← HLM.out], ?_, HA9.out, ?_, ?_, HU9⟩
         ·
          show Own _ _ _ _ _ _ _;rw [List.length_append];exact HO9.out
         ·
          show _ = _;rw [HTC.out, fmtCs_snoc, HB3.out, List.append_assoc]
         ·
          rw [List.length_append, ← HLM.out];omega
      ·
       obtain rfl : m = q := by omega
       have hsl : w.heap.size ≤ wr.heap.size := HUQ.out.size;have HZE : Hid (kx ({ data := #[59, 10] } : ByteArray) = [59, 10]) := rfl;have hsz2 : ({ data := #[59, 10] } : ByteArray).size = 2 := rfl
       go_wp2_with (at_builtin; refine wpList_apps rfl rfl rfl HO.out HA.out hsl rfl (by omega) ?_; intro B4 b4 w9 ho9 hu9 hat9)
       have HT : Hid (b3 ++ [59, 10] = fmtRs (L.take (k + 1))) := by
        show _ = _;rw [HTK.out, fmtRs_snoc, fmtR_hd, HB3.out, HBS.out, HB.out, ← Hm.out, List.take_length];simp
       have HIA : Hid (∀ x ∈ L.take (k + 1), implF x = true) := fun x hx => by
        rw [HTK.out] at hx
        rcases List.mem_append.1 hx with hx | hx
        ·
         exact HI2.out x hx
        ·
         rw [List.mem_singleton] at hx; subst hx; exact Hv.out
       have HU9 : Hid (Upd Non w w9) := HUQ.out.trans hu9 (fun j hj e => by have := HA.out j e; omega);rw [HZE.out, HT.out] at ho9;have HO9 := Lib.hid ho9;have HA9 := Lib.hid hat9;clear ho9 hu9 hat9
       go_roundg (n - (k + 1))
       case measure => rw [Hg.out]; omega
       case rel =>
        have hlen : b3.length + 2 = (fmtRs (L.take (k + 1))).length := by rw [← HT.out]; simp
        refine ⟨k + 1, B4, b4, fmtRs (L.take (k + 1)), rfl, by omega, by go_num, by rw [← hlen], ?_, HA9.out, rfl, ?_, HIA, HU9⟩
        ·
         show Own _ _ _ _ _ _ _;rw [← hlen];exact HO9.out
        ·
         have := fmtRs_len (L := L.take (k + 1)) (fun x hx => impl_fm (HIA.out x hx) (HI.out x (List.mem_of_mem_take hx)));rw [List.length_take] at this;omega
  ·
   obtain rfl : n = k := by omega
   have hcv := conv_own HO.out rfl
   have HE : Hid (kstr bs = res) := by
    show _ = _;rw [← Hres.out, HB.out];unfold printF;have h1 := HI2.out;rw [← Hn.out, List.take_length] at h1 ⊢;rw [if_pos (List.all_eq_true.2 h1)]
   rw [HE.out] at hcv
   go_wp2_with fail
   go_ret;exact ⟨rfl, HU.out⟩
theorem rParse_all (s : ByteArray) (w : World) : Calls Tryz.prog 10 #[.string s] w (ParseP (parseF (kx s)) w) :=
 rParse_c axiomF axiomF_sz s (fun _ q w => rAxiom_c q w) w
def nmCs (l : List (Bs × Bs)) : List Value := l.map fun x => .string (kstr x.1)
theorem nmCs_snoc (l : List (Bs × Bs)) (x : Bs × Bs) : nmCs (l ++ [x]) = nmCs l ++ [.string (kstr x.1)] := by simp [nmCs]
theorem T_strs : SlT Tryz.prog 27 9 1 16 := by
 obtain ⟨i, h1, h2, h3, h4⟩ := info_parts (show (Tryz.prog.info? 9).map (fun i => (i.zero, i.size, i.bytes)) = some (some (.string ⟨#[]⟩), 1, 16) from by kernel_rfl)
 exact ⟨Tryz.underlying27, ⟨i, _, h1, h2, h3, h4, rfl⟩, by omega⟩
set_option maxRecDepth 100000 in
set_option maxHeartbeats 1000000 in
theorem rAxioms_c (w : World) : Calls Tryz.prog 17 #[] w fun e w' => ∃ (A : Option Addr) (c : Nat), e = .returned (.slice A 22 c) ∧ Own w' 9 1 A 22 c (nmCs axL) ∧ (∀ k, At A k → w.heap.size ≤ k) ∧ Upd Non w w' := by
 have CA := Lib.hid (raxioms_c w);go_enter Tryz.func17, Tryz.ntmps17
 go_wp2_with fail
 refine CA.out.mono ?_;rintro e w2 ⟨rfl, hbt, hu2⟩;have HT := Lib.hid hbt;have HU2 := Lib.hid hu2;have hs2 := hu2.size;clear hbt hu2 CA
 go_wp2_with fail
 go_loopg [1, 3, 6] 22 (fun g v _ iv wr => ∃ (j : Nat) (A : Option Addr) (c : Nat), Hid (g = 22 - j) ∧ j ≤ 22 ∧ iv = .int .i64 j ∧ v = .slice A j c ∧ Hid (Own wr 9 1 A j c (nmCs (axL.take j))) ∧ Hid (∀ k, At A k → w2.heap.size ≤ k) ∧ Hid (Upd Non w2 wr))
 case atStart => exact ⟨0, none, 0, rfl, Nat.zero_le _, rfl, rfl, Own.none_, fun _ q => (At.none_ q).elim, Upd.refl⟩
 case round =>
  obtain ⟨j, A, c, Hg, hj, rfl, rfl, HO, HA, HU⟩ := hrel;have hb := HT.out.upd HU.out (fun f => f)
  by_cases hlt : j < 22
  ·
   have hal : j < axL.length := hlt;obtain ⟨k0, k1⟩ := axCs_get hal
   have c0 : wr.cell? ⟨w.heap.size, j * 2, none⟩ = some (.string (kstr axL[j].1)) := by rw [hb.cell]; simpa using k0
   have c1 : wr.cell? ⟨w.heap.size, j * 2 + 1, none⟩ = some (.string (kstr axL[j].2)) := by rw [hb.cell]; simpa using k1
   have HTK : Hid (axL.take (j + 1) = axL.take j ++ [axL[j]]) := take_snoc' hal;generalize axL[j] = xx at *;obtain ⟨qa, Hqa⟩ := nm (kstr xx.1);obtain ⟨qb, Hqb⟩ := nm (kstr xx.2);rw [Hqa.out] at c0;rw [Hqb.out] at c1;have hsl := HU.out.size;obtain ⟨W3, HW3⟩ := nm (wr.alloc (.cells #[.string qa, .string qb] 82));have e3 := HW3.out
   have u3 : Upd Non wr W3 := by rw [← e3]; exact Upd.refl.alloc _
   have b3 : Blk W3 wr.heap.size 82 #[.string qa, .string qb] := by rw [← e3]; exact Blk.new _ _ _
   have z0 := b3.cell 0;have hs3 := u3.size;have hoA := Own.upd HO.out u3 (fun _ _ f => f);have HU3 := Lib.hid (HU.out.then_non u3);clear k0 k1 hb b3 u3
   go_wp2_with (at_builtin; refine wpList_app rfl rfl T_strs rfl (hoA.alloc _) rfl (Sl.new _ _ _) rfl (by simp [Value.oneCell']) (by simp only [maxLen]; omega) (by omega) ?_; intro A4 c4 w4 ho4 hu4 hat4)
   have HU4 : Hid (Upd Non w2 w4) := (HU3.out.alloc _).trans hu4 (fun k hk e => by have := HA.out k e; omega)
   have HA4 : Hid (∀ k, At A4 k → w2.heap.size ≤ k) := fun k hk => by
    rcases hat4 k hk with q | q
    ·
     exact HA.out k q
    ·
     simp at q; omega
   have HO4 : Hid (Own w4 9 1 A4 (j + 1) c4 (nmCs (axL.take (j + 1)))) := by
    show Own _ _ _ _ _ _ _;rw [HTK.out, nmCs_snoc, Hqa.out];exact ho4
   clear ho4 hu4 hat4 hoA
   go_roundg (22 - (j + 1))
   case measure => rw [Hg.out]; omega
   case rel => exact ⟨j + 1, A4, c4, rfl, by omega, by go_num, rfl, HO4.out, HA4.out, HU4.out⟩
  ·
   obtain rfl : j = 22 := by omega
   clear hb;have hO := HO.out;rw [List.take_of_length_le (show axL.length ≤ 22 from Nat.le_refl _)] at hO;have HO2 := Lib.hid hO;clear hO
   go_wp2_with fail
   go_ret;exact ⟨A, c, rfl, HO2.out, fun k hk => by have := HA.out k hk; omega, HU2.out.then_non HU.out⟩
theorem ptE_sound (p : Pt) : ∀ q, ptE p q = true → p = q := by
 induction p using Pt.ind with
 | h p ih =>
  intro q h;rw [ptE_eq, Bool.and_eq_true, decide_eq_true_eq] at h;obtain ⟨⟨h1, h2, h3, h4, h5⟩, h6⟩ := h
  have hk : ∀ (ks ls : List Pt), (∀ k ∈ ks, ∀ q, ptE k q = true → k = q) → ks.length = ls.length → ptEL ks ls = true → ks = ls := by
   intro ks
   induction ks with
   | nil => intro ls _ hl _; exact (List.eq_nil_of_length_eq_zero hl.symm).symm
   | cons k ks ihl =>
    intro ls hm hl he
    cases ls with
    | nil => cases hl
    | cons l ls =>
     rw [ptEL, Bool.and_eq_true] at he;rw [hm k List.mem_cons_self l he.1, ihl ls (fun k hk => hm k (List.mem_cons_of_mem _ hk)) (Nat.succ.inj hl) he.2]
  have h7 := hk p.kids q.kids ih h5 h6
  cases p
  cases q
  simp only [Pt.v, Pt.op, Pt.imm, Pt.iv, Pt.kids] at h1 h2 h3 h4 h7;subst h1 h2 h3 h4 h7;rfl
theorem rlE_sound {r s : Rl} (hn : r.name = s.name) (h : rlE r s = true) : r = s := by
 unfold rlE at h;simp only [Bool.and_eq_true, decide_eq_true_eq] at h;obtain ⟨⟨⟨⟨h1, h2, _⟩, h3⟩, h4⟩, h5⟩ := h;have h6 := ptE_sound _ _ h3;have h7 := ptE_sound _ _ h4
 cases r
 cases s
 dsimp only at *;subst hn h1 h2 h5 h6 h7;rfl
def axTy (x : Bs × Bs) : Bs := x.1 ++ [32, 58, 32] ++ x.2 ++ [32, 59]
def axN (x : Bs × Bs) : Except Er (Rl × PS) := ruleN (goodT (toksF (axTy x))) (axTy x).length ⟨0, [], []⟩
theorem axy_all : axL.all (fun x => match parseG (fun _ => none) (axTx x), axN x with | .ok [r], .ok (q, _) => decide (r.name = q.name) && rlE r q | _, _ => false) = true := by decide +kernel
theorem axy {x : Bs × Bs} (h : x ∈ axL) : ∃ r z, parseG (fun _ => none) (axTx x) = .ok [r] ∧ axN x = .ok (r, z) := by
 have h1 := List.all_eq_true.1 axy_all x h
 split at h1
 ·
  rename_i r q z e1 e2;rw [Bool.and_eq_true, decide_eq_true_eq] at h1;obtain rfl := rlE_sound h1.1 h1.2;exact ⟨r, z, e1, e2⟩
 ·
  cases h1
theorem xok_toks {s : Bs} (hs : s.length ≤ 20000) (hl : (goodT (toksF s)).length ≤ s.length) : XOk (goodT (toksF s)) :=
 ⟨fun _ ht => (tokL_s _ _ _ _ (goodT_mem ht) rfl).1, fun t ht => by have h3 : t.1.length ≤ s.length := (tokL_s _ _ _ _ (goodT_mem ht) rfl).2; omega, by omega⟩
set_option maxRecDepth 100000 in
theorem xAxiomTexts_c (w : World) : Calls Tryz.prog 40 #[] w fun e w' => e = .returned (.slice (some ⟨w.heap.size, 0, none⟩) 44 44) ∧ Blk w' w.heap.size 9 axCs.toArray ∧ Upd Non w w' := by
 go_enter Tryz.func40, Tryz.ntmps40
 go_wp2_with fail
 go_ret;exact ⟨rfl, Blk.new _ _ _, Upd.refl.alloc _⟩
set_option maxRecDepth 100000 in
set_option maxHeartbeats 4000000 in
theorem xAxiom_c (s : Bs) (w : World) : Calls Tryz.prog 19 #[.string (kstr s)] w (AxP axiomF s w) := by
 have HX : Hid (axiomF s = match axL.find? (fun x => decide (x.1 = s)) with
  | none => none
  | some x => match parseG (fun _ => none) (axTx x) with
   | .ok [r] => some r
   | _ => none) := axiomF_eq s
 obtain ⟨W1, HW1⟩ := nm (w.alloc (.cells #[.string ⟨#[]⟩, .int .i64 0, .int .i64 0, .int .i64 0, .int .i64 0, .slice none 0 0, .int .i64 0, .int .i64 0, .int .i64 0, .int .i64 0, .slice none 0 0, .slice none 0 0, .int .i64 0, .int .i64 0] 43))
 have e1 := HW1.out
 have u1 : Upd Non w W1 := by rw [← e1]; exact Upd.refl.alloc _
 have b1 : Blk W1 w.heap.size 43 z14 := by rw [← e1]; exact Blk.new _ _ _
 have s1 : W1.heap.size = w.heap.size + 1 := by rw [← e1]; simp
 have CA := Lib.hid (xAxiomTexts_c W1);rw [s1] at CA;obtain ⟨qs, Hqs⟩ := nm (kstr s);rw [Hqs.out];have HB1 := Lib.hid b1;have HU1 := Lib.hid u1;clear u1 b1 s1;go_enter Tryz.func19, Tryz.ntmps19
 go_wp2_with fail
 refine CA.out.mono ?_;rintro e w2 ⟨rfl, hbt, hu2⟩;have HT := Lib.hid hbt;have HB2 := Lib.hid (HB1.out.upd hu2 (fun f => f));have HU2 := Lib.hid (HU1.out.then_non hu2);clear hbt hu2 CA HB1 HU1 e1
 go_wp2_with fail
 go_loopg [5] 22 (fun g iv wr => ∃ j k : Nat, Hid (g = 22 - j) ∧ j ≤ 22 ∧ Hid (k = j * 2) ∧ iv = .int .i64 k ∧ Hid (wr = w2) ∧ Hid (∀ x ∈ axL.take j, ¬ x.1 = s))
 case atStart => exact ⟨0, 0, rfl, Nat.zero_le _, rfl, rfl, rfl, fun x hx => by simp at hx⟩
 case round =>
  obtain ⟨j, k, Hg, hj, Hk, rfl, HWR, HN⟩ := hrel;have hwr := HWR.out;subst hwr;have hb := HT.out;have hr := HB2.out
  by_cases hlt : j < 22
  ·
   have hal : j < axL.length := hlt
   have hk44 : k + 1 < 44 := by rw [Hk.out]; omega
   obtain ⟨k0, k1⟩ := axCs_get hal;rw [← Hk.out] at k0 k1
   have c0 : wr.cell? ⟨w.heap.size + 1, k, none⟩ = some (.string (kstr axL[j].1)) := by rw [hb.cell]; simpa using k0
   have c1 : wr.cell? ⟨w.heap.size + 1, k + 1, none⟩ = some (.string (kstr axL[j].2)) := by rw [hb.cell]; simpa using k1
   have HM : Hid (axL[j] ∈ axL) := List.getElem_mem hal
   have HDR : Hid (axL = axL.take j ++ axL[j] :: axL.drop (j + 1)) := by
    show axL = _;rw [← List.drop_eq_getElem_cons hal, List.take_append_drop]
   have HTK : Hid (axL.take (j + 1) = axL.take j ++ [axL[j]]) := take_snoc' hal;generalize axL[j] = xx at *;obtain ⟨D, HD⟩ := nm (decide (xx.1 = s))
   have hD : ((kstr xx.1).toList == qs.toList) = D := by rw [← Hqs.out, str_beq, HD.out]
   obtain ⟨qa, Hqa⟩ := nm (kstr xx.1);obtain ⟨qb, Hqb⟩ := nm (kstr xx.2);rw [Hqa.out] at c0 hD;rw [Hqb.out] at c1;clear k0 k1 hb hr
   cases D with
   | false =>
    go_wp2_with fail
    go_roundg (22 - (j + 1))
    case measure => rw [Hg.out]; omega
    case rel =>
     refine ⟨j + 1, k + 2, rfl, by omega, by show _ = _; rw [Hk.out]; omega, by go_num, rfl, fun y hy => ?_⟩;rw [HTK.out] at hy
     rcases List.mem_append.1 hy with hy | hy
     ·
      exact HN.out y hy
     ·
      rw [List.mem_singleton] at hy; subst hy; exact of_decide_eq_false HD.out
   | true =>
    obtain ⟨rl, z, hpr, hax⟩ := axy HM.out;obtain ⟨la, lb⟩ := ax_size HM.out;have hxs : xx.1 = s := of_decide_eq_true HD.out
    have hqa : qa = qs := by rw [← Hqa.out, ← Hqs.out, hxs]
    rw [Hqa.out, hqa] at la;rw [Hqb.out] at lb
    have hkx : kx (((qs ++ { data := #[32, 58, 32] }) ++ qb) ++ { data := #[32, 59] }) = axTy xx := by
     rw [← Hqs.out, ← Hqb.out, ← hxs];simp [kx, kstr, axTy]
    have hsz : (((qs ++ { data := #[32, 58, 32] }) ++ qb) ++ { data := #[32, 59] }).size ≤ 3000 := by
     simp only [ByteArray.size_append];show qs.size + 3 + qb.size + 2 ≤ 3000;omega
    obtain ⟨str, Hstr⟩ := nm (((qs ++ { data := #[32, 58, 32] }) ++ qb) ++ { data := #[32, 59] });have estr := Hstr.out;rw [estr] at hkx hsz;have CT := Lib.hid (xTokens_c str wr (by omega));have hkl : (kx str).length = str.size := kx_len _
    have HXO : Hid ((goodT (toksF (axTy xx))).length ≤ str.size → XOk (goodT (toksF (axTy xx)))) := fun q => by
     rw [hkx] at hkl;exact xok_toks (by omega) (by omega)
    have HAX : Hid (ruleN (goodT (toksF (axTy xx))) str.size ⟨0, [], []⟩ = .ok (rl, z)) := by
     show _ = _;rw [← hax, ← hkl, hkx];rfl
    rw [hkx] at CT;obtain ⟨T, HTT⟩ := nm (goodT (toksF (axTy xx)));rw [HTT.out] at CT HAX HXO;obtain ⟨m, Hm⟩ := nm str.size;have hm := Hm.out;rw [hm] at HAX HXO CT hsz;have HPR := Lib.hid hpr;clear hkx hpr hkl hax hxs hqa hal
    go_upto_region 7 with fail
    clear estr
    go_wp2_with fail
    refine CT.out.mono ?_;rintro e w4 ⟨A, c, mm, rfl, ho4, hat4, hlen4, hf4, hm4, u4⟩;clear hf4 hm4;have hT := HXO.out hlen4
    obtain ⟨W5, HW5⟩ := nm (w4.alloc (.cells #[.slice A T.length c, .int .i64 0, .int .i64 (m : Nat), .int .i64 0, .int .i64 0, .string ⟨#[]⟩, .string ⟨#[]⟩, .bool false] 88))
    have u5 : Upd Non w4 W5 := by rw [← HW5.out]; exact Upd.refl.alloc _
    have b5 : Blk W5 w4.heap.size 88 (xcells A T.length c m ⟨0, 0, 0, [], [], false⟩) := by rw [← HW5.out]; exact Blk.new _ _ _
    have hxd : XdS W5 w4.heap.size A c T m ⟨0, 0, 0, [], [], false⟩ := ⟨b5, ((xt_view ho4).upd u5 (fun _ _ _ f => f)).mono (fun k hk q => Own.lt ho4 q), Own.le ho4⟩
    have CR := Lib.hid (xRule_c hT hxd ⟨Nat.zero_le _, Nat.zero_le _, Nat.zero_le _⟩);have HU5 := Lib.hid ((HU2.out.then_non u4).then_non u5);have HR5 := Lib.hid ((HB2.out.upd u4 (fun f => f)).upd u5 (fun f => f));have hl4 := u4.size;have hl2 := HU2.out.size;have hl5 := u5.size;have hlw := HB2.out.lt
    have hch : w.heap.size < W5.heap.size := Nat.lt_of_lt_of_le (Nat.lt_of_lt_of_le HB2.out.lt hl4) hl5;clear ho4 hat4 u4 u5 b5 hxd CT hT HXO
    go_upto_region 9 with fail
    rw [HW5.out]
    go_wp2_with fail
    refine CR.out.mono ?_;rintro e w6 ⟨R, a, y, rfl, hrk, hx1, hx2, hx3, u6, hx4, hx5, hres⟩;clear hx1 hx2 hx3 hx4 hx5
    have HE : Hid (R = rl) := by
     have h1 := hres.1 rfl;rw [show (⟨0, 0, 0, [], [], false⟩ : Xs).ps = ⟨0, [], []⟩ from rfl, HAX.out] at h1;exact h1.2.2.symm
    have b0 := HR5.out.upd u6 (by omega);unfold z14 at b0;have z0 := b0.cell 0;have z1 := b0.cell 1;have z2 := b0.cell 2;have z3 := b0.cell 3;have z4 := b0.cell 4;have z5 := b0.cell 5;have z6 := b0.cell 6;have z7 := b0.cell 7;have z8 := b0.cell 8;have z9 := b0.cell 9;have z10 := b0.cell 10;have z11 := b0.cell 11;have z12 := b0.cell 12;have z13 := b0.cell 13;have zf := b0.frozen
    have HRK := Lib.hid hrk;have HU6 : Hid (Upd Non w w6) := HU5.out.trans u6 (fun k hk e => by omega);have HB0 := Lib.hid b0;clear hrk hres u6 CR b0 HAX;unfold rlv rlCells
    go_wp2_with fail
    rw [set14_eq]
    obtain ⟨W8, HW8⟩ := nm (set14 w6 w.heap.size (.string R.name) (.int .i64 R.l.v) (.int .i64 R.l.op) (.int .i64 R.l.imm) (.int .i64 R.l.iv) (.slice a.la R.l.kids.length a.lc) (.int .i64 R.r.v) (.int .i64 R.r.op) (.int .i64 R.r.imm) (.int .i64 R.r.iv) (.slice a.ra R.r.kids.length a.rc) (.slice a.ca R.conds.length a.cc) (.int .i64 R.vars) (.int .i64 R.imms))
    rw [HW8.out]
    have us : Upd (· = w.heap.size) w6 W8 := by rw [← HW8.out]; exact set14_upd _ _ _ _ _ _ _ _ _ _ _ _ _ _ _ _
    have b8 : Blk W8 w.heap.size 43 (rlCells R a) := by rw [← HW8.out]; exact set14_blk HB0.out _ _ _ _ _ _ _ _ _ _ _ _ _ _
    have hU8 : Upd Non w W8 := HU6.out.trans us (fun k hk e => Nat.lt_irrefl _ (e ▸ hk))
    have hK8 : RlK W8 (fun k => w.heap.size ≤ k) R a := (HRK.out.upd us (fun k _ q e => Nat.lt_irrefl _ (Nat.lt_of_lt_of_le hch (e ▸ q)))).mono (fun k _ q => Nat.le_trans (Nat.le_of_lt hch) q)
    clear HW8 us;refine bodyPost_ret (results_cell_row_tmp rfl _ _ w.heap.size 43 _ (0, 0) _ rfl b8 Tryz.underlying43 rfl (by kernel_rfl)) rfl ?_;refine ⟨R, a, true, rfl, hK8, hU8, fun _ => ?_, fun q => (by cases q)⟩;rw [HX.out, HDR.out, find_take HN.out (of_decide_eq_true HD.out)];dsimp only;rw [HPR.out, HE.out]
  ·
   obtain rfl : j = 22 := by omega
   have hk44 : k = 44 := Hk.out;subst hk44;clear hb;unfold z14 at hr;have z0 := hr.cell 0;have z1 := hr.cell 1;have z2 := hr.cell 2;have z3 := hr.cell 3;have z4 := hr.cell 4;have z5 := hr.cell 5;have z6 := hr.cell 6;have z7 := hr.cell 7;have z8 := hr.cell 8;have z9 := hr.cell 9;have z10 := hr.cell 10;have z11 := hr.cell 11;have z12 := hr.cell 12;have z13 := hr.cell 13;have zf := hr.frozen
   go_wp2_with fail
   rw [set14_eq]
   have us := set14_upd wr w.heap.size (.string ⟨#[]⟩) (.int .i64 0) (.int .i64 0) (.int .i64 0) (.int .i64 0) (.slice none 0 0) (.int .i64 0) (.int .i64 0) (.int .i64 0) (.int .i64 0) (.slice none 0 0) (.slice none 0 0) (.int .i64 0) (.int .i64 0)
   have b5 := set14_blk hr (.string ⟨#[]⟩) (.int .i64 0) (.int .i64 0) (.int .i64 0) (.int .i64 0) (.slice none 0 0) (.int .i64 0) (.int .i64 0) (.int .i64 0) (.int .i64 0) (.slice none 0 0) (.slice none 0 0) (.int .i64 0) (.int .i64 0)
   refine bodyPost_ret (results_cell_row_tmp rfl _ _ w.heap.size 43 _ (0, 0) _ rfl b5 Tryz.underlying43 rfl (by kernel_rfl)) rfl ?_
   refine ⟨⟨⟨#[]⟩, .mk 0 0 0 0 [], .mk 0 0 0 0 [], [], 0, 0⟩, ⟨none, 0, none, 0, none, 0⟩, false, rfl, ⟨PtK.leaf, PtK.leaf, CondsV.nil, Nat.le_refl _⟩, HU2.out.trans us (fun k hk e => by omega), fun q => (by cases q), fun _ => ?_⟩
   rw [HX.out, List.find?_eq_none.2];intro y hy
   simpa using HN.out y (by rw [List.take_of_length_le (show axL.length ≤ 22 from Nat.le_refl _)]; exact hy)
theorem tokL_pn : ∀ (f : Nat) (s : Bs) (o : Nat), ∀ t ∈ tokL f s o, isPn (t.s.headD 0) = true → t.s.length = 1
 | 0, s, o, t, h, hp => by rw [tokL, List.mem_singleton] at h; subst h; cases hp
 | f + 1, [], o, t, h, hp => by rw [tokL, List.mem_singleton] at h; subst h; cases hp
 | f + 1, c :: r, o, t, h, hp => by
  unfold tokL at h
  split at h
  ·
   exact tokL_pn f _ _ t h hp
  ·
   split at h
   ·
    exact tokL_pn f _ _ t h hp
   ·
    split at h
    ·
     rcases List.mem_cons.1 h with rfl | h
     ·
      rfl
     ·
      exact tokL_pn f _ _ t h hp
    ·
     rename_i h3
     rcases List.mem_cons.1 h with rfl | h
     ·
      have h31 : isPn c = false := by
       simp only [Bool.or_eq_true, decide_eq_true_eq, not_or] at h3
       simpa using h3.1.1
      exfalso
      dsimp only at hp
      cases hw : wlen (c :: r) with
      | zero => rw [hw] at hp; cases hp
      | succ n =>
       rw [hw, List.take_succ_cons, List.headD_cons, h31] at hp
       cases hp
     ·
      exact tokL_pn f _ _ t h hp
theorem wlen_len : ∀ s : Bs, wlen s ≤ s.length
 | [] => Nat.le_refl _
 | c :: r => by
  have := wlen_len r;unfold wlen;rw [List.length_cons]
  split <;> omega
theorem clen_len : ∀ s : Bs, clen s ≤ s.length
 | [] => Nat.le_refl _
 | c :: r => by
  have := clen_len r;unfold clen;rw [List.length_cons]
  split <;> omega
theorem tokL_pos : ∀ (f : Nat) (s : Bs) (o : Nat), ∀ t ∈ tokL f s o, t.bad = false → t.pos < o + s.length
 | 0, s, o, t, h, hb => by rw [tokL, List.mem_singleton] at h; subst h; cases hb
 | f + 1, [], o, t, h, hb => by rw [tokL, List.mem_singleton] at h; subst h; cases hb
 | f + 1, c :: r, o, t, h, hb => by
  unfold tokL at h;rw [List.length_cons]
  split at h
  ·
   have := tokL_pos f _ _ t h hb;omega
  ·
   split at h
   ·
    have := tokL_pos f _ _ t h hb;have hc := clen_len (c :: r);rw [List.length_drop, List.length_cons] at this;rw [List.length_cons] at hc;omega
   ·
    split at h
    ·
     rcases List.mem_cons.1 h with rfl | h
     ·
      show o < _; omega
     ·
      have := tokL_pos f _ _ t h hb;omega
    ·
     rcases List.mem_cons.1 h with rfl | h
     ·
      show o < _; omega
     ·
      have := tokL_pos f _ _ t h hb;have hc := wlen_len (c :: r);rw [List.length_drop, List.length_cons] at this;rw [List.length_cons] at hc;omega
def xdl (s : Bs) : Bool := decide (s.length = 1) && isPn (s.headD 0)
structure XPk (T : List (Bs × Nat)) (n : Nat) : Prop where
 pn : ∀ t ∈ T, isPn (t.1.headD 0) = true → t.1.length = 1
 pos : ∀ t ∈ T, t.2 < n
theorem xpk_toks (s : Bs) : XPk (goodT (toksF s)) s.length :=
 ⟨fun _ ht hp => tokL_pn _ _ _ _ (goodT_mem ht) hp, fun t ht => by have h : t.2 < 0 + s.length := tokL_pos _ _ _ _ (goodT_mem ht) rfl; omega⟩
section
variable {T : List (Bs × Nat)} {fin n : Nat} {s : Bs} {x y : Xs}
theorem xdl_tok (hP : XPk T n) {i : Nat} (ht : tkF T i = some s) : xdl s = isPn (s.headD 0) := by
 have hl := xtk_lt ht;unfold tkF at ht;rw [List.getElem?_eq_getElem hl] at ht
 injection ht with ht
 unfold xdl
 cases h : isPn (s.headD 0) with
 | false => simp
 | true =>
  have h2 := hP.pn _ (List.getElem_mem hl);have ht2 : T[i].1 = s := ht;rw [ht2] at h2;simp [h2 h]
theorem off_lt (hP : XPk T n) (i : Nat) : decide (offF T fin i < n) = (decide (i < T.length) || decide (fin < n)) := by
 unfold offF
 by_cases h : i < T.length
 ·
  rw [List.getElem?_eq_getElem h];simp [h, hP.pos _ (List.getElem_mem h)]
 ·
  rw [List.getElem?_eq_none (by omega)];simp [h]
def Xs.st (x : Xs) : St := ⟨x.i, x.why, x.ea, none, 0, x.vs, none, 0, x.ms, x.left⟩
def xLt (T : List (Bs × Nat)) (fin : Nat) : List Tok := T.map (fun t => ⟨t.1, t.2, false⟩) ++ [⟨[], fin, true⟩]
theorem xlok (h : XOk T) : LOk (xLt T fin) T fin := by
 have hl := h.len;refine ⟨by simp [xLt], fun i hi => ?_, ⟨[], ?_⟩, h.ne, h.sz, by simp [xLt]; omega⟩
 ·
  unfold xLt;rw [List.getElem?_append_left (by simpa using hi), List.getElem?_map, List.getElem?_eq_getElem hi];rfl
 ·
  unfold xLt;rw [List.getElem?_append_right (by simp)];simp
theorem any_ok2 {z : PS} (ht : tkF T z.i = some s) (hp : isPn (s.headD 0) = false) : anyF T fin z = .ok (s, { z with i := z.i + 1 }) := by
 unfold anyF;rw [wrd_some ht, if_neg (by rw [hp]; decide)]
theorem any_ok (ht : tkF T x.i = some s) (hp : isPn (s.headD 0) = false) : anyF T fin x.ps = .ok (s, { x.ps with i := x.i + 1 }) := any_ok2 (z := x.ps) ht hp
theorem any_pn {z : PS} (ht : tkF T z.i = some s) (hp : isPn (s.headD 0) = true) : anyF T fin z = .error (serr T fin z.i) := by
 unfold anyF;rw [wrd_some ht, if_pos hp]
theorem any_none {z : PS} (ht : tkF T z.i = none) : anyF T fin z = .error (serr T fin z.i) := wrd_none ht
theorem bindE_ok {α β : Type} {v : α} {g : α → Except Er β} : bindE (.ok v) g = g v := rfl
theorem itemX_ax (hP : XPk T n) {ax : Bs → Option Rl} {y y1 y2 y3 : Xs} {rl : Rl} {b : Bool} (h0 : y.why = 0) (ht : tkF T y.i = some [97, 120, 105, 111, 109]) (h1 : y1 = { y with i := y.i + 1 }) (hs : nxS T y1 = s) (h2 : nxY T fin y1 = y2) (h3 : y3 = if xdl s then y2.fail 2 (offF T fin (y.i + 1)) else y2)
  (hb : (b = true → ax s = some rl) ∧ (b = false → ax s = none)) :
  ResX y (exY T fin [59] y3) (itemF T fin ax y.ps) (fun v => v.2 = offF T fin (y.i + 1) ∧ (b = true → v.1 = some rl) ∧ (b = false → v.1 = none)) := by
 refine ⟨fun _ => ?_, fun q => absurd h0 q⟩
 have h10 : y1.why = 0 := by rw [h1]; exact h0
 have h1i : y1.i = y.i + 1 := by rw [h1]
 unfold itemF;rw [show y.ps.i = y.i from rfl, if_pos ht, show ({ y.ps with i := y.i + 1 } : PS) = y1.ps by rw [h1]; rfl]
 by_cases q : y1.i < T.length
 ·
  obtain ⟨t, htk⟩ := tk_some q;obtain ⟨e1, e2, _⟩ := nx_some (fin := fin) h10 htk;rw [e1] at hs;subst hs;rw [e2] at h2;have hd := xdl_tok hP htk
  cases hp : isPn (t.headD 0) with
  | true =>
   rw [any_pn (z := y1.ps) htk hp];dsimp only;rw [hd, hp, if_pos rfl] at h3;rw [h3, ← h2, xfail_zero (show ({ y1 with i := y1.i + 1 } : Xs).why = 0 from h10), exY_err (show (2 : Int) ≠ 0 by decide)];refine ⟨rfl, ?_⟩;show ((offF T fin (y.i + 1) : Nat) : Int) = (offF T fin y1.i : Nat);rw [h1i]
  | false =>
   rw [any_ok htk hp];dsimp only;rw [hd, hp, if_neg (by decide)] at h3
   have e3 : ({ y1.ps with i := y1.i + 1 } : PS) = y3.ps := by rw [h3, ← h2]; rfl
   rw [e3]
   have h30 : y3.why = 0 := by rw [h3, ← h2]; exact h10
   have e := exY_res (T := T) (fin := fin) (s := [59]) h30
   cases he : expF T fin [59] y3.ps with
   | error er => rw [he] at e; exact e
   | ok u => rw [he] at e; exact ⟨e.1, e.2, rfl, hb.1, hb.2⟩
 ·
  obtain ⟨e1, e2⟩ := nx_none (T := T) (fin := fin) (x := y1) (fun r => q r.2);rw [e1] at hs;subst hs;rw [e2, xfail_zero h10] at h2;rw [any_none (z := y1.ps) (tk_none q)];dsimp only;rw [show xdl [] = false from rfl, if_neg (by decide)] at h3;rw [h3, ← h2, exY_err (show (2 : Int) ≠ 0 by decide)];exact ⟨rfl, rfl⟩
theorem itemX_ru (hP : XPk T n) {ax : Bs → Option Rl} {y y1 yE yR : Xs} {rl : Rl} (h0 : y.why = 0) (ht : tkF T y.i = some [114, 117, 108, 101]) (h1 : y1 = { y with i := y.i + 1 }) (hn : rl.name = kstr (nxS T y1)) (hr : ResX y1 yE (ruleN T fin y1.ps) (fun v => v = rl))
  (hR : yR = if xdl (kx rl.name) then { yE with why := 2, ea := (offF T fin (y.i + 1) : Nat) } else yE) :
  ResX y yR (itemF T fin ax y.ps) (fun v => v.2 = offF T fin (y.i + 1) ∧ (true = true → v.1 = some rl) ∧ (true = false → v.1 = none)) := by
 refine ⟨fun _ => ?_, fun q => absurd h0 q⟩
 have h10 : y1.why = 0 := by rw [h1]; exact h0
 have h1i : y1.i = y.i + 1 := by rw [h1]
 rw [hn, kx_kstr] at hR;unfold itemF;rw [show y.ps.i = y.i from rfl, if_neg (by rw [ht]; decide)]
 have e0 : expF T fin [114, 117, 108, 101] y.ps = .ok y1.ps := by
  unfold expF;rw [show y.ps.i = y.i from rfl, if_pos ht, h1];rfl
 rw [e0];dsimp only;rw [ruleF_eq];have h2 := hr.1 h10;have h3 : ({ y1.ps with vs := [], ms := [] } : PS).i = y1.i := rfl
 by_cases q : y1.i < T.length
 ·
  obtain ⟨t, htk⟩ := tk_some q;obtain ⟨e1, _, _⟩ := nx_some (fin := fin) h10 htk;rw [e1] at hR;have hd := xdl_tok hP htk
  cases hp : isPn (t.headD 0) with
  | true =>
   rw [any_pn (z := { y1.ps with vs := [], ms := [] }) htk hp];rw [hd, hp, if_pos rfl] at hR;rw [hR];unfold bindE;refine ⟨rfl, ?_⟩;show ((offF T fin (y.i + 1) : Nat) : Int) = (offF T fin y1.i : Nat);rw [h1i]
  | false =>
   rw [show anyF T fin { y1.ps with vs := [], ms := [] } = .ok (t, ⟨y1.i + 1, [], []⟩) from any_ok2 (z := { y1.ps with vs := [], ms := [] }) htk hp];rw [hd, hp, if_neg (by decide)] at hR;unfold ruleN at h2;rw [show y1.ps.i = y1.i from rfl, htk] at h2;rw [hR];rw [bindE_ok];dsimp only at h2
   cases hg : rg2 T fin t ⟨y1.i + 1, [], []⟩ with
   | error e => rw [hg] at h2; exact h2
   | ok v =>
    rw [hg] at h2;obtain ⟨r2, z2⟩ := v;exact ⟨h2.1, h2.2.1, by rw [← h1i]; rfl, fun _ => congrArg some h2.2.2, fun q => by cases q⟩
 ·
  obtain ⟨e1, _⟩ := nx_none (T := T) (fin := fin) (x := y1) (fun r => q r.2);rw [e1] at hR;rw [show xdl [] = false from rfl, if_neg (by decide)] at hR;rw [any_none (z := { y1.ps with vs := [], ms := [] }) (tk_none q)];unfold ruleN at h2;rw [show y1.ps.i = y1.i from rfl, tk_none q] at h2;rw [hR];exact h2
theorem itemX_no {ax : Bs → Option Rl} {y : Xs} (h1 : ¬ tkF T y.i = some [97, 120, 105, 111, 109]) (h2 : ¬ tkF T y.i = some [114, 117, 108, 101]) : itemF T fin ax y.ps = .error (serr T fin y.i) := by
 unfold itemF;rw [show y.ps.i = y.i from rfl, if_neg h1];unfold expF;rw [show y.ps.i = y.i from rfl, if_neg h2]
def PndX (T : List (Bs × Nat)) (fin : Nat) (ax : Bs → Option Rl) (n : Nat) (R : Except Er (List Rl)) (y : Xs) (Q : List Rl) (fu : Nat) (rl : Rl) (tp : Nat) : Prop :=
 (y.why ≠ 0 → R = .error (y.why, y.ea)) ∧ (y.why = 0 → (Q.any (fun q => decide (q.name = rl.name)) = true → R = .error (4, tp)) ∧ (Q.any (fun q => decide (q.name = rl.name)) = false → (Q.length = 160 → R = .error (6, tp)) ∧ (Q.length ≠ 160 → LpR T fin ax n R y.st (Q ++ [rl]) fu)))
variable {ax : Bs → Option Rl} {R : Except Er (List Rl)} {Q : List Rl} {fu tp : Nat} {rl : Rl}
theorem PndX.of {b v : Bool} {k : Int} (h : RndR T fin ax n R y.st Q fu rl tp b) (hv : b = true → v = implF rl) (hk : k = if b then 1 else 3) (hb : b = false → v = false) {y' : Xs} (hy : y' = if v then y else y.fail k tp) : PndX T fin ax n R y' Q fu rl tp := by
 by_cases h0 : y.why = 0
 ·
  obtain ⟨_, h2⟩ := h;obtain ⟨_, h3, h4⟩ := h2 h0
  cases b with
  | false =>
   rw [hb rfl, if_neg (by decide)] at hy;rw [hy, xfail_zero h0];rw [if_neg (by decide)] at hk;subst hk;exact ⟨fun _ => h3 rfl, fun q => absurd q (show (3 : Int) ≠ 0 by decide)⟩
  | true =>
   obtain ⟨_, h5, h6⟩ := h4 rfl;rw [if_pos rfl] at hk;subst hk;rw [hv rfl] at hy
   cases hi : implF rl with
   | false =>
    rw [hi, if_neg (by decide)] at hy;rw [hy, xfail_zero h0];exact ⟨fun _ => h5 hi, fun q => absurd q (show (1 : Int) ≠ 0 by decide)⟩
   | true =>
    rw [hi, if_pos rfl] at hy;rw [hy];exact ⟨fun q => absurd h0 q, fun _ => h6 hi⟩
 ·
  have e : y' = y := by
   rw [hy]
   split
   ·
    rfl
   ·
    exact xfail_why h0
  rw [e];exact ⟨h.1, fun q => absurd q h0⟩
theorem PndX.done (h : PndX T fin ax n R y Q fu rl tp) (hq : Q.length ≤ 160 ∨ y.why ≠ 0) {y6 y7 : Xs} (h6 : y6 = if Q.any (fun q => decide (q.name = rl.name)) then y.fail 4 tp else y) (h7 : y7 = if 160 ≤ Q.length then y6.fail 6 tp else y6) : LpR T fin ax n R y7.st (Q ++ [rl]) fu := by
 by_cases h0 : y.why = 0
 ·
  obtain ⟨k1, k2⟩ := h.2 h0
  cases hd : Q.any (fun q => decide (q.name = rl.name)) with
  | true =>
   rw [hd, if_pos rfl, xfail_zero h0] at h6
   have e : y7 = y6 := by
    rw [h7]
    split
    ·
     exact xfail_why (by rw [h6]; show (4 : Int) ≠ 0; decide)
    ·
     rfl
   rw [e, h6];exact ⟨fun q => absurd q (show (4 : Int) ≠ 0 by decide), fun _ => k1 hd⟩
  | false =>
   rw [hd, if_neg (by decide)] at h6;subst h6;obtain ⟨k3, k4⟩ := k2 hd
   by_cases hl : Q.length = 160
   ·
    rw [if_pos (by omega), xfail_zero h0] at h7;rw [h7];exact ⟨fun q => absurd q (show (6 : Int) ≠ 0 by decide), fun _ => k3 hl⟩
   ·
    rw [if_neg (by rcases hq with hq | hq; omega; exact absurd h0 hq)] at h7;rw [h7];exact k4 hl
 ·
  have e6 : y6 = y := by
   rw [h6]
   split
   ·
    exact xfail_why h0
   ·
    rfl
  have e7 : y7 = y := by
   rw [h7, e6]
   split
   ·
    exact xfail_why h0
   ·
    rfl
  rw [e7];exact ⟨fun q => absurd q h0, h.1⟩
end
structure PxS (w0 w : World) (p : Nat) (A : Option Addr) (c : Nat) (T : List (Bs × Nat)) (fin : Nat) (y : Xs) (OA : Option Addr) (oc : Nat) (Q : List Rl) : Prop where
 xd : XdS w p A c T fin y
 er : Blk w w0.heap.size 31 #[.int .i64 0, .int .i64 0]
 out : RlO w (fun k => p < k) OA Q.length oc Q
 oat : ∀ k, At OA k → p < k
 lt : w0.heap.size < p
 upd : Upd Non w0 w
section
variable {w0 w w' : World} {p : Nat} {A : Option Addr} {c : Nat} {T : List (Bs × Nat)} {fin : Nat} {y y' : Xs} {OA : Option Addr} {oc : Nat} {Q : List Rl}
theorem PxS.call (h : PxS w0 w p A c T fin y OA oc Q) (hr : XdS w' p A c T fin y') (u : Upd (· = p) w w') : PxS w0 w' p A c T fin y' OA oc Q := by
 have h1 := h.lt
 exact ⟨hr, h.er.upd u (by omega), h.out.upd u (fun k hk e => by have := h.oat k hk; omega) (fun k _ q e => by omega), h.oat, h1, h.upd.trans u (fun k hk e => by omega)⟩
theorem PxS.non (h : PxS w0 w p A c T fin y OA oc Q) (u : Upd Non w w') : PxS w0 w' p A c T fin y OA oc Q := h.call (h.xd.non u) (upd_eq u)
theorem PxS.app (h : PxS w0 w p A c T fin y OA oc Q) {rl : Rl} {a : RlA} {m : Nat} (hk : RlK w (fun k => m ≤ k) rl a) (hm : p < m) (hA : ∀ k, At OA k → k < m) {cs : List Value} (hc : RsCells w (fun k => p < k ∧ ¬ At OA k) cs Q) {w3 w4 : World} (u2 : Upd Non w w3) {OB : Option Addr} {ob : Nat} (ho : Own w4 43 14 OB (Q.length + 1) ob (cs ++ (rlCells rl a).toList)) (u3 : Upd (At OA) w3 w4) (hat : ∀ k, At OB k → At OA k ∨ k = w3.heap.size) : PxS w0 w4 p A c T fin y OB ob (Q ++ [rl]) := by
 have hlt := h.lt;have hp := h.xd.blk.lt;have s2 := u2.size;have hoat := h.oat;have hc3 : RsCells w3 (fun k => p < k ∧ ¬ At OA k) cs Q := hc.mono u2 (fun _ _ _ f => f) (fun _ _ q => q)
 have hk3 : RlK w3 (fun k => p < k ∧ ¬ At OA k) rl a := (hk.upd u2 (fun _ _ _ f => f)).mono (fun k _ q => ⟨Nat.lt_of_lt_of_le hm q, fun r => Nat.lt_irrefl _ (Nat.lt_of_lt_of_le (hA k r) q)⟩)
 refine ⟨(h.xd.non u2).upd u3 (fun k _ q => hoat k q), (h.er.upd u2 (fun f => f)).upd u3 (fun q => by have := hoat _ q; omega), ?_, fun k q => ?_, hlt, (h.upd.then_non u2).trans u3 (fun k hk q => by have := hoat k q; omega)⟩
 ·
  have := RlO.snoc (G' := fun k => p < k) rfl hc3 hk3 ho u3 hat (fun _ _ q => q);rw [List.length_append, List.length_singleton];exact this
 ·
  rcases hat k q with r | r
  ·
   exact hoat k r
  ·
   omega
theorem PxS.res (h : PxS w0 w p A c T fin y OA oc Q) (a b : Value) : Blk (setE2 w w0.heap.size a b) w0.heap.size 31 #[a, b] ∧ Upd Non w0 (setE2 w w0.heap.size a b) ∧ Blk (setE2 w w0.heap.size a b) p 88 (xcells A T.length c fin y) ∧ RlsV (setE2 w w0.heap.size a b) (fun k => w0.heap.size ≤ k) OA Q := by
 have u := setE2_upd w w0.heap.size a b;have hlt := h.lt;refine ⟨setE2_blk h.er a b, h.upd.trans u (fun k hk e => by omega), h.xd.blk.upd u (by omega), ?_⟩
 ·
  have hv : RlsV w (fun k => w0.heap.size < k) OA Q := h.out.view (fun k q => by have := h.oat k q; omega) (fun k _ q => by omega);exact (hv.upd u (fun k _ q e => by omega)).mono (fun k _ q => Nat.le_of_lt q)
theorem PxS.fin_ (h : PxS w0 w p A c T fin y OA oc Q) : RlsV w (fun k => w0.heap.size ≤ k) OA Q ∧ Q.length ≤ oc :=
 ⟨h.out.view (fun k q => by have := h.oat k q; have := h.lt; omega) (fun k _ q => by have := h.lt; omega), h.out.le⟩
structure PxG (m : Nat) (w0 w : World) (p : Nat) (A : Option Addr) (c : Nat) (T : List (Bs × Nat)) (fin : Nat) (y : Xs) (OA : Option Addr) (oc : Nat) (Q : List Rl) : Prop where
 xd : XdS w p A c T fin y
 er : Blk w w0.heap.size 31 #[.int .i64 0, .int .i64 0]
 out : RlO w (fun k => p < k ∧ k < m) OA Q.length oc Q
 oat : ∀ k, At OA k → p < k ∧ k < m
 lt : w0.heap.size < p
 pm : p < m
 upd : Upd Non w0 w
theorem PxS.pg (h : PxS w0 w p A c T fin y OA oc Q) : PxG w.heap.size w0 w p A c T fin y OA oc Q :=
 ⟨h.xd, h.er, h.out.mono (fun _ hk q => ⟨q, hk⟩), fun k q => ⟨h.oat k q, h.out.lt q⟩, h.lt, h.xd.blk.lt, h.upd⟩
theorem PxG.px {m : Nat} (h : PxG m w0 w p A c T fin y OA oc Q) : PxS w0 w p A c T fin y OA oc Q :=
 ⟨h.xd, h.er, h.out.mono (fun _ _ q => q.1), fun k q => (h.oat k q).1, h.lt, h.upd⟩
theorem PxG.call {m : Nat} (h : PxG m w0 w p A c T fin y OA oc Q) (hr : XdS w' p A c T fin y') (u : Upd (· = p) w w') : PxG m w0 w' p A c T fin y' OA oc Q := by
 have h1 := h.lt
 exact ⟨hr, h.er.upd u (by omega), h.out.upd u (fun k hk e => by have := h.oat k hk; omega) (fun k _ q e => by omega), h.oat, h1, h.pm, h.upd.trans u (fun k hk e => by omega)⟩
theorem PxG.non {m : Nat} (h : PxG m w0 w p A c T fin y OA oc Q) (u : Upd Non w w') : PxG m w0 w' p A c T fin y OA oc Q := h.call (h.xd.non u) (upd_eq u)
theorem PxG.set {m g : Nat} (h : PxG m w0 w p A c T fin y OA oc Q) (u : Upd (· = g) w w') (hg : m ≤ g) : PxG m w0 w' p A c T fin y OA oc Q := by
 have h1 := h.lt;have h2 := h.pm
 exact ⟨h.xd.upd u (fun k _ e => by omega), h.er.upd u (by omega), h.out.upd u (fun k hk e => by have := h.oat k hk; omega) (fun k _ q e => by omega), h.oat, h1, h2, h.upd.trans u (fun k hk e => by omega)⟩
theorem XdS.err (h : XdS w p A c T fin y) (a b : Int) : XdS ((w.setCell ⟨p, 3, none⟩ (.int .i64 a)).setCell ⟨p, 4, none⟩ (.int .i64 b)) p A c T fin { y with why := a, ea := b } := by
 refine h.set ((updCell w p 3 _).trans (updCell _ p 4 _) (fun _ _ q => q)) ?_;have := (h.blk.set_ 3 (.int .i64 a)).set_ 4 (.int .i64 b)
 simpa [xcells] using this
end
def BBlk (w : World) (g : Nat) (bs : List Bool) : Prop := Blk w g 4 (bs.map Value.bool).toArray
theorem BBlk.cell {w : World} {g : Nat} {bs : List Bool} (h : BBlk w g bs) {i : Nat} (hi : i < bs.length) : w.cell? ⟨g, i, none⟩ = some (.bool (bs.getD i false)) := by
 rw [Blk.cell h]; simp [List.getD, hi]
theorem BBlk.set_ {w : World} {g : Nat} {bs : List Bool} (h : BBlk w g bs) (i : Nat) (x : Bool) : BBlk (w.setCell ⟨g, i, none⟩ (.bool x)) g (bs.set i x) := by
 have := Blk.set_ h i (.bool x);unfold BBlk;rw [show ((bs.set i x).map Value.bool).toArray = (bs.map Value.bool).toArray.setIfInBounds i (.bool x) by simp [List.map_set]];exact this
theorem BBlk.new (w : World) (n : Nat) : BBlk (w.alloc (.cells (Array.replicate n (.bool false)) 4)) w.heap.size (List.replicate n false) := by
 unfold BBlk;rw [show ((List.replicate n false).map Value.bool).toArray = Array.replicate n (.bool false) by simp];exact Blk.new _ _ _
def mk1 (x : Int) (bs : List Bool) : List Bool := if 0 < x ∧ x < (bs.length : Int) then bs.set x.toNat true else bs
theorem mk1_len (x : Int) (bs : List Bool) : (mk1 x bs).length = bs.length := by
 unfold mk1; split <;> simp
theorem markV_node (p : Pt) (bs : List Bool) : markV (nodes p) bs = markV (nodesL p.kids) (mk1 p.v bs) := by rw [nodes_eq]; rfl
theorem markI_node (p : Pt) (bs : List Bool) : markI (nodes p) bs = markI (nodesL p.kids) (mk1 p.iv bs) := by rw [nodes_eq]; rfl
theorem markV_len (l : List Pt) : ∀ bs : List Bool, (markV l bs).length = bs.length := by
 induction l with
 | nil => intro bs; rfl
 | cons p l ih => intro bs; show (markV l (mk1 p.v bs)).length = _; rw [ih, mk1_len]
theorem markI_len (l : List Pt) : ∀ bs : List Bool, (markI l bs).length = bs.length := by
 induction l with
 | nil => intro bs; rfl
 | cons p l ih => intro bs; show (markI l (mk1 p.iv bs)).length = _; rw [ih, mk1_len]
theorem markV_app (a b : List Pt) (bs : List Bool) : markV (a ++ b) bs = markV b (markV a bs) := by unfold markV; rw [List.foldl_append]
theorem markI_app (a b : List Pt) (bs : List Bool) : markI (a ++ b) bs = markI b (markI a bs) := by unfold markI; rw [List.foldl_append]
set_option maxRecDepth 100000 in
set_option maxHeartbeats 4000000 in
theorem r15occurring_c (p : Pt) : ∀ (w : World) (F : Nat → Prop) (KA : Option Addr) (kc gv c gi d : Nat) (bs cs : List Bool), PtK w F p KA kc → ¬ F gv → ¬ F gi → gv ≠ gi → BBlk w gv bs → BBlk w gi cs → p.size ≤ 1000000000000 →
  Calls Tryz.prog 53 #[pv p KA kc, .slice (some ⟨gv, 0, none⟩) bs.length c, .slice (some ⟨gi, 0, none⟩) cs.length d] w fun e w' => e = .returned (.tuple #[]) ∧ BBlk w' gv (markV (nodes p) bs) ∧ BBlk w' gi (markI (nodes p) cs) ∧ Upd (fun k => k = gv ∨ k = gi) w w' := by
 induction p using Pt.ind with
 | h p ih =>
  intro w F KA kc gv c gi d bs cs hp hFv hFi hne hgv hgi hs;have HI := Lib.hid ih;obtain ⟨W, HW⟩ := nm (w.alloc (.cells #[.int .i64 p.v, .int .i64 p.op, .int .i64 p.imm, .int .i64 p.iv, .slice KA p.kids.length kc] 40))
  have hU : Upd Non w W := by rw [← HW.out]; exact Upd.refl.alloc _
  have hb : Blk W w.heap.size 40 #[.int .i64 p.v, .int .i64 p.op, .int .i64 p.imm, .int .i64 p.iv, .slice KA p.kids.length kc] := by rw [← HW.out]; exact Blk.new _ _ _
  have e0 := HW.out;have hvlt : gv < w.heap.size := Blk.lt hgv;have hilt : gi < w.heap.size := Blk.lt hgi;have hgv : BBlk W gv bs := Blk.upd hgv hU (fun f => f);have hgi : BBlk W gi cs := Blk.upd hgi hU (fun f => f);have hp := PtK.upd hU (fun _ _ _ f => f) p KA kc hp;have HZ := Lib.hid (fun (k : Pt) (h : k ∈ p.kids) => Nat.le_trans (Nat.le_of_lt (Pt.kids_lt h)) hs)
  have hkl : p.kids.length ≤ 1000000000000 := by have h1 := Pt.len_le p.kids; have h2 := Pt.size_eq p; omega
  rw [markV_node, markI_node];have c0 := hb.cell 0;have h2U : Upd (fun k => k = gv ∨ k = gi) w W := hU.mono (fun _ _ f => f.elim);unfold pv;obtain ⟨v, Hv⟩ := nm p.v;obtain ⟨op, Hop⟩ := nm p.op;obtain ⟨imm, Him⟩ := nm p.imm;obtain ⟨iv, Hiv⟩ := nm p.iv;obtain ⟨k, Hk⟩ := nm p.kids.length;rw [Hv.out] at c0 e0 hb;rw [Hop.out] at e0 hb;rw [Him.out] at e0 hb;rw [Hiv.out] at e0 hb
  rw [Hk.out] at e0 hb hkl;rw [Hv.out, Hop.out, Him.out, Hiv.out, Hk.out];obtain ⟨vn, Hvn⟩ := nm bs.length;obtain ⟨mn, Hmn⟩ := nm cs.length;rw [Hvn.out, Hmn.out];have hLV := mk1_len v bs;have hLI := mk1_len iv cs;obtain ⟨bs1, Hbs1⟩ := nm (mk1 v bs);obtain ⟨cs1, Hcs1⟩ := nm (mk1 iv cs);rw [Hvn.out, Hbs1.out] at hLV;rw [Hmn.out, Hcs1.out] at hLI;have HLV := Lib.hid hLV;have HLI := Lib.hid hLI
  rw [Hbs1.out, Hcs1.out];clear ih hs hLV hLI;go_enter Tryz.func53, Tryz.ntmps53;obtain ⟨b1, f1⟩ : ∃ b, decide (0 < v) = b := ⟨_, rfl⟩;obtain ⟨b2, f2⟩ : ∃ b, decide (v < (vn : Int)) = b := ⟨_, rfl⟩;have F1 := Lib.hid f1;have F2 := Lib.hid f2
  go_upto_region 1 with fail
  go_cut [16] (fun t wx => t = .bool (b1 && b2) ∧ wx = W)
  case first =>
   cases b1 with
   | false => go_wp2_with fail; go_meet; exact ⟨rfl, rfl⟩
   | true => cases b2 <;> (go_wp2_with fail; go_meet; exact ⟨rfl, rfl⟩)
  case rest =>
   obtain ⟨rfl, ew⟩ := hcut;obtain rfl : W = _ := ew.symm;clear f1 f2
   go_upto_if 16 with fail
   go_cut [] (fun wx => BBlk wx gv bs1 ∧ Upd (· = gv) W wx)
   case first =>
    cases hT : (b1 && b2) with
    | true =>
     have hb1 : b1 = true := by revert hT; cases b1 <;> simp
     have hb2 : b2 = true := by revert hT; cases b2 <;> simp
     have h1 : 0 < v := of_decide_eq_true (by rw [F1.out, hb1]);have h2 : v < (vn : Int) := of_decide_eq_true (by rw [F2.out, hb2]);obtain ⟨j, rfl⟩ : ∃ j : Nat, v = (j : Int) := Int.eq_ofNat_of_zero_le (by omega)
     have hj : j < bs.length := by rw [Hvn.out]; omega
     have hz := BBlk.cell hgv hj;have hfr := Blk.frozen hgv
     have hE : bs.set j true = bs1 := by rw [← Hbs1.out]; unfold mk1; rw [if_pos ⟨h1, by rw [Hvn.out]; exact h2⟩]; rfl
     obtain ⟨W2, HW2⟩ := nm (W.setCell ⟨gv, j, none⟩ (.bool true))
     have hgv2 : BBlk W2 gv bs1 := by rw [← HW2.out, ← hE]; exact BBlk.set_ hgv j true
     have u2 : Upd (· = gv) W W2 := by rw [← HW2.out]; exact updCell _ _ _ _
     have e2 := HW2.out;have HE := Lib.hid hgv2
     have hj2 : j < vn := by omega
     have hT2 := Lib.hid hT;clear hE hgv2 hgv hb1 hb2 hT h1 h2
     go_wp2_with fail
     go_meet
     case rel => exact ⟨HE.out, u2⟩
    | false =>
     have hE : bs = bs1 := by
      rw [← Hbs1.out]; unfold mk1;rw [if_neg];rw [Hvn.out];rintro ⟨h1, h2⟩;have a1 := F1.out;have a2 := F2.out;rw [decide_eq_true h1] at a1;rw [decide_eq_true h2] at a2;rw [← a1, ← a2] at hT
      cases hT
     have HE := Lib.hid hE;clear hE
     go_wp2_with fail
     go_meet
     case rel => exact ⟨by rw [← HE.out]; exact hgv, Upd.refl⟩
   case rest =>
    obtain ⟨hgv1, u1⟩ := hcut;have hbc := hb.upd u1 (by omega);have hgi1 : BBlk wc gi cs := Blk.upd hgi u1 (fun e => hne e.symm);have hp1 := PtK.upd u1 (fun q _ hq e => hFv (by rw [← e]; exact hq)) p KA kc hp;have HU1 := h2U.trans u1 (fun q _ h => .inl h);have hsc := u1.size;have c0 := hbc.cell 0;have c3 := hbc.cell 3;have c4 := hbc.cell 4;obtain ⟨b3, f3⟩ : ∃ b, decide (0 < iv) = b := ⟨_, rfl⟩
    obtain ⟨b4, f4⟩ : ∃ b, decide (iv < (mn : Int)) = b := ⟨_, rfl⟩;have F3 := Lib.hid f3;have F4 := Lib.hid f4;clear hb;obtain ⟨wd, rfl⟩ : ∃ wd : World, wd = wc := ⟨_, rfl⟩
    go_upto_region 3 with fail
    go_cut [30] (fun t wx => t = .bool (b3 && b4) ∧ wx = wd)
    case first =>
     cases b3 with
     | false => go_wp2_with fail; go_meet; exact ⟨rfl, rfl⟩
     | true => cases b4 <;> (go_wp2_with fail; go_meet; exact ⟨rfl, rfl⟩)
    case rest =>
     obtain ⟨rfl, ew⟩ := hcut;obtain rfl : wd = _ := ew.symm;clear f3 f4
     go_upto_if 30 with fail
     go_cut [] (fun wx => BBlk wx gi cs1 ∧ Upd (· = gi) wd wx)
     case first =>
      cases hT : (b3 && b4) with
      | true =>
       have hb1 : b3 = true := by revert hT; cases b3 <;> simp
       have hb2 : b4 = true := by revert hT; cases b4 <;> simp
       have h1 : 0 < iv := of_decide_eq_true (by rw [F3.out, hb1]);have h2 : iv < (mn : Int) := of_decide_eq_true (by rw [F4.out, hb2]);obtain ⟨j, rfl⟩ : ∃ j : Nat, iv = (j : Int) := Int.eq_ofNat_of_zero_le (by omega)
       have hj : j < cs.length := by rw [Hmn.out]; omega
       have hz := BBlk.cell hgi1 hj;have hfr := Blk.frozen hgi1
       have hE : cs.set j true = cs1 := by rw [← Hcs1.out]; unfold mk1; rw [if_pos ⟨h1, by rw [Hmn.out]; exact h2⟩]; rfl
       obtain ⟨W2, HW2⟩ := nm (wd.setCell ⟨gi, j, none⟩ (.bool true))
       have hgi2 : BBlk W2 gi cs1 := by rw [← HW2.out, ← hE]; exact BBlk.set_ hgi1 j true
       have u2 : Upd (· = gi) wd W2 := by rw [← HW2.out]; exact updCell _ _ _ _
       have e2 := HW2.out;have HE := Lib.hid hgi2
       have hj2 : j < mn := by omega
       have hT2 := Lib.hid hT;clear hE hgi2 hb1 hb2 hT h1 h2
       go_wp2_with fail
       go_meet
       case rel => exact ⟨HE.out, u2⟩
      | false =>
       have hE : cs = cs1 := by
        rw [← Hcs1.out]; unfold mk1;rw [if_neg];rw [Hmn.out];rintro ⟨h1, h2⟩;have a1 := F3.out;have a2 := F4.out;rw [decide_eq_true h1] at a1;rw [decide_eq_true h2] at a2;rw [← a1, ← a2] at hT
        cases hT
       have HE := Lib.hid hE;clear hE
       go_wp2_with fail
       go_meet
       case rel => exact ⟨by rw [← HE.out]; exact hgi1, Upd.refl⟩
     case rest =>
      obtain ⟨W4, rfl⟩ : ∃ W4 : World, W4 = wc := ⟨_, rfl⟩;obtain ⟨hgi2, u2⟩ := hcut;have hbc2 := hbc.upd u2 (by omega);have hgv2 : BBlk W4 gv bs1 := Blk.upd hgv1 u2 hne;have hp4 := PtK.upd u2 (fun q _ hq e => hFi (by rw [← e]; exact hq)) p KA kc hp1;have HU4 := HU1.trans u2 (fun q _ h => .inr h);have hs4 := u2.size;have c4 := hbc2.cell 4;have hgi2 := Lib.hid hgi2;have hgv2 := Lib.hid hgv2
      clear hgv1 hgi1 hp1 c0 c3 hbc u1 hgv hgi
      go_wp2_with fail
      go_loopg [6] k (fun g i wr => ∃ q : Nat, Hid (g = k - q) ∧ q ≤ k ∧ i = .int .i64 q ∧ Hid (BBlk wr gv (markV (nodesL (p.kids.take q)) bs1)) ∧ Hid (BBlk wr gi (markI (nodesL (p.kids.take q)) cs1)) ∧ Upd (fun q => q = gv ∨ q = gi) W4 wr)
      case atStart => exact ⟨0, rfl, by omega, rfl, hgv2.out, hgi2.out, Upd.refl⟩
      case round =>
       obtain ⟨q, Hg, hq, rfl, HV, HM, hu⟩ := hrel;have d4 := (hbc2.upd hu (by omega)).cell 4
       by_cases hlt : q < k
       ·
        have hql : q < p.kids.length := by rw [Hk.out]; exact hlt
        have hpr := PtK.upd hu (fun q _ hq e => by rcases e with rfl | rfl; exact hFv hq; exact hFi hq) p KA kc hp4;obtain ⟨b, o, rfl, hF, hbw, KB, kd, h0, h1, h2, h3, h4, h5⟩ := hpr.at_ hql;have HTK : Hid (p.kids.take (q + 1) = p.kids.take q ++ [p.kids[q]]) := take_snoc' hql;have hmem := List.getElem_mem hql;generalize p.kids[q] = t at *;have hts := HZ.out t hmem
        have C1 := Lib.hid (HI.out t hmem wr F KB kd gv c gi d (markV (nodesL (p.kids.take q)) bs1) (markI (nodesL (p.kids.take q)) cs1) h5 hFv hFi hne HV.out HM.out hts)
        rw [markV_len, markI_len, HLV.out, HLI.out] at C1;unfold pv at C1
        have HV2 : Hid (markV (nodes t) (markV (nodesL (p.kids.take q)) bs1) = markV (nodesL (p.kids.take (q + 1))) bs1) := by show _ = _; rw [HTK.out, nodesL_snoc, markV_app]
        have HM2 : Hid (markI (nodes t) (markI (nodesL (p.kids.take q)) cs1) = markI (nodesL (p.kids.take (q + 1))) cs1) := by show _ = _; rw [HTK.out, nodesL_snoc, markI_app]
        rw [HV2.out, HM2.out] at C1;clear h5 HV HM HTK hmem
        go_wp2_with fail
        refine C1.out.mono ?_;rintro e w7 ⟨rfl, hv7, hm7, hu7⟩;have HV7 := Lib.hid hv7;have HM7 := Lib.hid hm7;have HU7 : Upd (fun q => q = gv ∨ q = gi) W4 w7 := hu.trans hu7 (fun _ _ h => h);clear hv7 hm7 C1
        go_wp2_with fail
        go_roundg (k - (q + 1))
        case measure => rw [Hg.out]; omega
        case rel => exact ⟨q + 1, rfl, by omega, by go_num, HV7.out, HM7.out, HU7⟩
       ·
        obtain rfl : k = q := by omega
        have HT : Hid (p.kids.take k = p.kids) := List.take_of_length_le (by rw [Hk.out]; exact Nat.le_refl _);rw [HT.out] at HV HM;have HU := HU4.trans hu (fun _ _ h => h)
        go_wp2_with fail
        go_end0
        exact ⟨rfl, HV.out, HM.out, HU⟩
theorem isVal_lo {ss : List Int} {n : Int} (h : ¬ 1 ≤ n) : isValF ss n = false := decide_eq_false (fun q => h q.1)
theorem isVal_hi {ss : List Int} {n : Int} (h : ¬ n < ss.length) : isValF ss n = false := decide_eq_false (fun q => h q.2.1)
theorem isVal_at {ss : List Int} {j : Nat} (h : 1 ≤ (j : Int)) (g : (j : Int) < ss.length) : isValF ss j = (ss.getD j 0 == 1) := by
 unfold isValF;rw [Bool.eq_iff_iff];simp only [Int.toNat_natCast, decide_eq_true_eq, beq_iff_eq];exact ⟨fun q => q.2.2, fun q => ⟨h, g, q⟩⟩
set_option maxRecDepth 100000 in
set_option maxHeartbeats 4000000 in
theorem r15validCond_c (x : Cd) (ss : List Int) (m : Int) (A : Option Addr) (c : Nat) (F : Nat → Prop) (w : World) (hs : Ints w F A ss) :
  Calls Tryz.prog 54 #[.agg #[.int .i64 x.kind, .int .i64 x.a, .int .i64 x.b, .int .i64 x.n], .slice A ss.length c, .int .i64 m] w fun e w' => e = .returned (.bool (condF x ss m)) ∧ Upd Non w w' := by
 obtain ⟨k, a, b, n⟩ := x;dsimp only;obtain ⟨W, HW⟩ := nm (w.alloc (.cells #[.int .i64 k, .int .i64 a, .int .i64 b, .int .i64 n] 69))
 have U : Upd Non w W := by rw [← HW.out]; exact Upd.refl.alloc _
 have b1 : Blk W w.heap.size 69 #[.int .i64 k, .int .i64 a, .int .i64 b, .int .i64 n] := by rw [← HW.out]; exact Blk.new _ _ _
 have e1 := HW.out;have hs := hs.upd U (fun _ _ _ f => f);have c0 := b1.cell 0;have c1 := b1.cell 1;have c2 := b1.cell 2;have c3 := b1.cell 3;have HVL := Lib.hid (fun (i : Int) => @isVal_lo ss i);have HVH := Lib.hid (fun (i : Int) => @isVal_hi ss i);have HVA := Lib.hid (fun (j : Nat) => @isVal_at ss j);obtain ⟨l, Hl⟩ := nm ss.length;obtain ⟨R, HR⟩ := nm (condF ⟨k, a, b, n⟩ ss m)
 rw [HR.out, Hl.out];have HR1 : Hid (R = condF ⟨k, a, b, n⟩ ss m) := HR.out.symm;unfold condF at HR1;dsimp only at HR1;obtain ⟨va, Hva⟩ := nm (isValF ss a);obtain ⟨vb, Hvb⟩ := nm (isValF ss b);rw [Hva.out, Hvb.out] at HR1;clear b1 HR;obtain ⟨tb, ftb⟩ : ∃ t, (b == 0) = t := ⟨_, rfl⟩;obtain ⟨tn, ftn⟩ : ∃ t, (n == 0) = t := ⟨_, rfl⟩;obtain ⟨tab, ftab⟩ : ∃ t, (b != a) = t := ⟨_, rfl⟩
 obtain ⟨tab2, ftab2⟩ : ∃ t, (a != b) = t := ⟨_, rfl⟩;obtain ⟨b1, fb1⟩ : ∃ t, decide (1 ≤ b) = t := ⟨_, rfl⟩;obtain ⟨bm, fbm⟩ : ∃ t, decide (b ≤ m) = t := ⟨_, rfl⟩;obtain ⟨a1, fa1⟩ : ∃ t, decide (1 ≤ a) = t := ⟨_, rfl⟩;obtain ⟨am, fam⟩ : ∃ t, decide (a ≤ m) = t := ⟨_, rfl⟩;obtain ⟨bl, fbl⟩ : ∃ t, decide (b < (l : Int)) = t := ⟨_, rfl⟩;obtain ⟨al, fal⟩ : ∃ t, decide (a < (l : Int)) = t := ⟨_, rfl⟩
 have gtb : decide (b = 0) = tb := by rw [← ftb, Bool.eq_iff_iff]; simp
 have gtn : decide (n = 0) = tn := by rw [← ftn, Bool.eq_iff_iff]; simp
 have gtab : decide (a ≠ b) = tab2 := by rw [← ftab2, Bool.eq_iff_iff]; simp
 have gtab2 : tab2 = tab := by rw [← ftab, ← ftab2, Bool.eq_iff_iff]; simp; exact ⟨fun h q => h q.symm, fun h q => h q.symm⟩
 have gia : isImmF m a = (a1 && am) := by unfold isImmF; rw [← fa1, ← fam, Bool.eq_iff_iff]; simp
 have gib : isImmF m b = (b1 && bm) := by unfold isImmF; rw [← fb1, ← fbm, Bool.eq_iff_iff]; simp
 rw [gtb, gtn, gtab, gtab2, gia, gib] at HR1;rw [gtab2] at ftab2;have FA1 := Lib.hid fa1;have FAL := Lib.hid fal;have FB1 := Lib.hid fb1;have FBL := Lib.hid fbl;clear gtb gtn gtab gia gib gtab2;go_enter Tryz.func54, Tryz.ntmps54
 go_upto_region 1 with fail
 go_cut [7] (fun t wx => t = .bool va ∧ W = wx)
 case first =>
  cases a1 with
  | false =>
   have hv : va = false := by rw [← Hva.out]; exact HVL.out a (of_decide_eq_false FA1.out)
   subst hv
   go_wp2_with fail
   go_meet;exact ⟨rfl, rfl⟩
  | true =>
   cases al with
   | false =>
    have hv : va = false := by rw [← Hva.out]; exact HVH.out a (by rw [Hl.out]; exact of_decide_eq_false FAL.out)
    subst hv
    go_wp2_with fail
    go_meet;exact ⟨rfl, rfl⟩
   | true =>
    obtain ⟨j, rfl⟩ : ∃ j : Nat, a = (j : Int) := Int.eq_ofNat_of_zero_le (by have := of_decide_eq_true FA1.out; omega);have hj : (j : Int) < l := of_decide_eq_true FAL.out
    have hj0 : (0 : Int) ≤ j := by omega
    have hv : va = (ss.getD j 0 == 1) := by rw [← Hva.out]; exact HVA.out j (of_decide_eq_true FA1.out) (by rw [Hl.out]; exact hj)
    obtain ⟨blk, off, rfl, _, _, z⟩ := Sl.at_ (k := j) hs (by simp [Hl.out]; omega)
    rw [show ((ss.map fun (x : Int) => Value.int .i64 x))[j]'(by simp [Hl.out]; omega) = .int .i64 (ss.getD j 0) by simp [List.getD, show j < ss.length by rw [Hl.out]; omega]] at z
    obtain ⟨y, Hy⟩ := nm (ss.getD j 0);rw [Hy.out] at z hv;have fv : (y == 1) = va := hv.symm;clear hv
    go_wp2_with fail
    go_meet;exact ⟨rfl, rfl⟩
 case rest =>
  obtain ⟨rfl, ew⟩ := hcut;obtain rfl : W = _ := ew
  by_cases h1 : k = 1
  ·
   subst h1
   have HE0 : Hid (R = (va && (tb && tn))) := by show _ = _; rw [HR1.out, if_pos rfl, Bool.and_assoc]
   cases va with
   | false =>
    have HE : Hid (R = false) := by show _ = _; rw [HE0.out]; simp
    go_wp2_with fail
    go_ret;exact ⟨by rw [HE.out]; rfl, U⟩
   | true =>
    have HE0 : Hid (R = (tb && tn)) := by show _ = _; rw [HE0.out]; simp
    cases tb with
    | false =>
     have HE : Hid (R = false) := by show _ = _; rw [HE0.out]; simp
     go_wp2_with fail
     go_ret;exact ⟨by rw [HE.out]; rfl, U⟩
    | true =>
     have HE0 : Hid (R = (tn)) := by show _ = _; rw [HE0.out]; simp
     have HE : Hid (R = tn) := HE0.out
     go_wp2_with fail
     go_ret;exact ⟨by rw [HE.out]; rfl, U⟩
  ·
   by_cases h2 : k = 2 ∨ k = 3
   ·
    have HE0 : Hid (R = (va && tb)) := by have := HR1.out; rw [if_neg h1, if_pos h2] at this; exact this
    rcases h2 with rfl | rfl
    ·
     cases va with
     | false =>
      have HE : Hid (R = false) := by show _ = _; rw [HE0.out]; simp
      go_wp2_with fail
      go_ret;exact ⟨by rw [HE.out]; rfl, U⟩
     | true =>
      have HE0 : Hid (R = (tb)) := by show _ = _; rw [HE0.out]; simp
      have HE : Hid (R = tb) := HE0.out
      go_wp2_with fail
      go_ret;exact ⟨by rw [HE.out]; rfl, U⟩
    ·
     cases va with
     | false =>
      have HE : Hid (R = false) := by show _ = _; rw [HE0.out]; simp
      go_wp2_with fail
      go_ret;exact ⟨by rw [HE.out]; rfl, U⟩
     | true =>
      have HE0 : Hid (R = (tb)) := by show _ = _; rw [HE0.out]; simp
      have HE : Hid (R = tb) := HE0.out
      go_wp2_with fail
      go_ret;exact ⟨by rw [HE.out]; rfl, U⟩
   ·
    have HR2 := HR1.out;rw [if_neg h1, if_neg h2] at HR2
    have t1 : (k == 1) = false := by simpa using h1
    have t2 : (k == 2) = false := by simp; omega
    have t3 : (k == 3) = false := by simp; omega
    have HR1 := Lib.hid HR2;clear HR2 h1 h2
    by_cases h4 : k = 4
    ·
     subst h4
     have HE0 : Hid (R = (va && (vb && (tab && tn)))) := by show _ = _; rw [HR1.out, if_pos rfl]; simp [Bool.and_assoc]
     cases va with
     | false =>
      have HE : Hid (R = false) := by show _ = _; rw [HE0.out]; simp
      go_wp2_with fail
      go_ret;exact ⟨by rw [HE.out]; rfl, U⟩
     | true =>
      have HE0 : Hid (R = (vb && (tab && tn))) := by show _ = _; rw [HE0.out]; simp
      cases b1 with
      | false =>
       have hv : vb = false := by rw [← Hvb.out]; exact HVL.out b (of_decide_eq_false FB1.out)
       have HE : Hid (R = false) := by show _ = _; rw [HE0.out, hv]; simp
       clear hv
       go_wp2_with fail
       go_ret;exact ⟨by rw [HE.out]; rfl, U⟩
      | true =>
       cases bl with
       | false =>
        have hv : vb = false := by rw [← Hvb.out]; exact HVH.out b (by rw [Hl.out]; exact of_decide_eq_false FBL.out)
        have HE : Hid (R = false) := by show _ = _; rw [HE0.out, hv]; simp
        clear hv
        go_wp2_with fail
        go_ret;exact ⟨by rw [HE.out]; rfl, U⟩
       | true =>
        obtain ⟨j, rfl⟩ : ∃ j : Nat, b = (j : Int) := Int.eq_ofNat_of_zero_le (by have := of_decide_eq_true FB1.out; omega);have hj : (j : Int) < l := of_decide_eq_true FBL.out
        have hj0 : (0 : Int) ≤ j := by omega
        have hv : vb = (ss.getD j 0 == 1) := by rw [← Hvb.out]; exact HVA.out j (of_decide_eq_true FB1.out) (by rw [Hl.out]; exact hj)
        obtain ⟨blk, off, rfl, _, _, z⟩ := Sl.at_ (k := j) hs (by simp [Hl.out]; omega)
        rw [show ((ss.map fun (x : Int) => Value.int .i64 x))[j]'(by simp [Hl.out]; omega) = .int .i64 (ss.getD j 0) by simp [List.getD, show j < ss.length by rw [Hl.out]; omega]] at z
        obtain ⟨y, Hy⟩ := nm (ss.getD j 0);rw [Hy.out] at z hv;have fv : (y == 1) = vb := hv.symm;clear hv
        cases vb with
        | false =>
         have HE : Hid (R = false) := by show _ = _; rw [HE0.out]; simp
         go_wp2_with fail
         go_ret;exact ⟨by rw [HE.out]; rfl, U⟩
        | true =>
         have HE0 : Hid (R = (tab && tn)) := by show _ = _; rw [HE0.out]; simp
         cases tab with
         | false =>
          have HE : Hid (R = false) := by show _ = _; rw [HE0.out]; simp
          go_wp2_with fail
          go_ret;exact ⟨by rw [HE.out]; rfl, U⟩
         | true =>
          have HE0 : Hid (R = (tn)) := by show _ = _; rw [HE0.out]; simp
          have HE : Hid (R = tn) := HE0.out
          go_wp2_with fail
          go_ret;exact ⟨by rw [HE.out]; rfl, U⟩
    ·
     have t4 : (k == 4) = false := by simpa using h4
     have HR2 := HR1.out;rw [if_neg h4] at HR2;have HR1 := Lib.hid HR2;clear HR2 h4
     by_cases h5 : k = 5
     ·
      subst h5
      have HE0 : Hid (R = (va && (b1 && (bm && tn)))) := by show _ = _; rw [HR1.out, if_pos rfl]; simp [Bool.and_assoc]
      cases va with
      | false =>
       have HE : Hid (R = false) := by show _ = _; rw [HE0.out]; simp
       go_wp2_with fail
       go_ret;exact ⟨by rw [HE.out]; rfl, U⟩
      | true =>
       have HE0 : Hid (R = (b1 && (bm && tn))) := by show _ = _; rw [HE0.out]; simp
       cases b1 with
       | false =>
        have HE : Hid (R = false) := by show _ = _; rw [HE0.out]; simp
        go_wp2_with fail
        go_ret;exact ⟨by rw [HE.out]; rfl, U⟩
       | true =>
        have HE0 : Hid (R = (bm && tn)) := by show _ = _; rw [HE0.out]; simp
        cases bm with
        | false =>
         have HE : Hid (R = false) := by show _ = _; rw [HE0.out]; simp
         go_wp2_with fail
         go_ret;exact ⟨by rw [HE.out]; rfl, U⟩
        | true =>
         have HE0 : Hid (R = (tn)) := by show _ = _; rw [HE0.out]; simp
         have HE : Hid (R = tn) := HE0.out
         go_wp2_with fail
         go_ret;exact ⟨by rw [HE.out]; rfl, U⟩
     ·
      have t5 : (k == 5) = false := by simpa using h5
      have HR2 := HR1.out;rw [if_neg h5] at HR2;have HR1 := Lib.hid HR2;clear HR2 h5
      by_cases h6 : k = 6
      ·
       subst h6
       have HE0 : Hid (R = (a1 && (am && (b1 && (bm && (tab && tn)))))) := by show _ = _; rw [HR1.out, if_pos rfl]; simp [Bool.and_assoc]
       cases a1 with
       | false =>
        have HE : Hid (R = false) := by show _ = _; rw [HE0.out]; simp
        go_wp2_with fail
        go_ret;exact ⟨by rw [HE.out]; rfl, U⟩
       | true =>
        have HE0 : Hid (R = (am && (b1 && (bm && (tab && tn))))) := by show _ = _; rw [HE0.out]; simp
        cases am with
        | false =>
         have HE : Hid (R = false) := by show _ = _; rw [HE0.out]; simp
         go_wp2_with fail
         go_ret;exact ⟨by rw [HE.out]; rfl, U⟩
        | true =>
         have HE0 : Hid (R = (b1 && (bm && (tab && tn)))) := by show _ = _; rw [HE0.out]; simp
         cases b1 with
         | false =>
          have HE : Hid (R = false) := by show _ = _; rw [HE0.out]; simp
          go_wp2_with fail
          go_ret;exact ⟨by rw [HE.out]; rfl, U⟩
         | true =>
          have HE0 : Hid (R = (bm && (tab && tn))) := by show _ = _; rw [HE0.out]; simp
          cases bm with
          | false =>
           have HE : Hid (R = false) := by show _ = _; rw [HE0.out]; simp
           go_wp2_with fail
           go_ret;exact ⟨by rw [HE.out]; rfl, U⟩
          | true =>
           have HE0 : Hid (R = (tab && tn)) := by show _ = _; rw [HE0.out]; simp
           cases tab with
           | false =>
            have HE : Hid (R = false) := by show _ = _; rw [HE0.out]; simp
            go_wp2_with fail
            go_ret;exact ⟨by rw [HE.out]; rfl, U⟩
           | true =>
            have HE0 : Hid (R = (tn)) := by show _ = _; rw [HE0.out]; simp
            have HE : Hid (R = tn) := HE0.out
            go_wp2_with fail
            go_ret;exact ⟨by rw [HE.out]; rfl, U⟩
      ·
       have t6 : (k == 6) = false := by simpa using h6
       have HE : Hid (R = false) := by show _ = _; rw [HR1.out, if_neg h6]
       clear h6
       go_wp2_with fail
       go_ret;exact ⟨by rw [HE.out]; rfl, U⟩
set_option maxHeartbeats 1000000 in
theorem r15Size_c (p : Pt) : ∀ (w : World) (F : Nat → Prop) (KA : Option Addr) (kc : Nat), PtK w F p KA kc → p.size ≤ 1000000000000 →
  Calls Tryz.prog 50 #[pv p KA kc] w fun e w' => e = .returned (.int .i64 (p.size : Int)) ∧ Upd Non w w' := by
 induction p using Pt.ind with
 | h p ih =>
  intro w F KA kc hp hs;have hse := Pt.size_eq p;have hle := Pt.len_le p.kids;have HI := Lib.hid ih;obtain ⟨W, HW⟩ := nm (w.alloc (.cells #[.int .i64 p.v, .int .i64 p.op, .int .i64 p.imm, .int .i64 p.iv, .slice KA p.kids.length kc] 40))
  have hU : Upd Non w W := by rw [← HW.out]; exact Upd.refl.alloc _
  have hb : Blk W w.heap.size 40 #[.int .i64 p.v, .int .i64 p.op, .int .i64 p.imm, .int .i64 p.iv, .slice KA p.kids.length kc] := by rw [← HW.out]; exact Blk.new _ _ _
  have e0 := HW.out;have c4 := hb.cell 4;have hpW := PtK.upd hU (fun _ _ _ f => f) p KA kc hp;have HS := Lib.hid hse;unfold pv;clear ih hse hp;obtain ⟨n, Hn⟩ := nm p.kids.length;rw [Hn.out] at c4 hle e0
  have hn12 : n ≤ 1000000000000 := by have := HS.out; omega
  rw [Hn.out];go_enter Tryz.func50, Tryz.ntmps50
  go_wp2_with fail
  go_loopg [3, 4] n (fun g v i wr => ∃ k : Nat, Hid (g = n - k) ∧ k ≤ n ∧ i = .int .i64 k ∧ v = .int .i64 ((1 + Pt.sizeL (p.kids.take k) : Nat) : Int) ∧ Upd Non W wr)
  case atStart => exact ⟨0, rfl, by omega, rfl, by simp [Pt.sizeL], Upd.refl⟩
  case round =>
   obtain ⟨k, Hg, hk, rfl, rfl, hu⟩ := hrel;have c4' := cell_upd c4 hu (fun f => f)
   by_cases hlt : k < n
   ·
    have hkl : k < p.kids.length := by rw [Hn.out]; exact hlt
    obtain ⟨b, o, rfl, hF, hbw, KB, kd, h0, h1, h2, h3, h4, h5⟩ := (PtK.upd hu (fun _ _ _ f => f) p KA kc hpW).at_ hkl
    have hks : p.kids[k].size ≤ 1000000000000 := by have := Pt.kids_lt (List.getElem_mem hkl); omega
    have hkk := Pt.sizeL_take p.kids k hkl;have hkt := Pt.sizeL_take_le p.kids (k + 1);have hmem0 := List.getElem_mem hkl;generalize p.kids[k] = q at *;have C1 := Lib.hid (HI.out q hmem0 wr F KB kd h5 hks);unfold pv at C1;obtain ⟨z, Hz⟩ := nm (1 + Pt.sizeL (p.kids.take k))
    have hz1 : 1 + Pt.sizeL (p.kids.take (k + 1)) = z + q.size := by rw [← Hz.out]; omega
    have HZ := Lib.hid hz1
    have hz2 : z + q.size ≤ 2000000000000 := by have := HS.out; omega
    rw [Hz.out];clear hkk hkt hz1 h5
    go_wp2_with fail
    refine C1.out.mono ?_;rintro e w4 ⟨rfl, hu4⟩
    go_wp2_with fail
    go_roundg (n - (k + 1))
    case measure => rw [Hg.out]; omega
    case rel => exact ⟨k + 1, rfl, by omega, by go_num, by rw [HZ.out]; go_num, hu.then_non hu4⟩
   ·
    obtain rfl : n = k := by omega
    have HT : Hid (1 + Pt.sizeL (p.kids.take n) = p.size) := by show _ = _; rw [HS.out, ← Hn.out]; simp
    rw [HT.out]
    go_wp2_with fail
    go_ret;exact ⟨rfl, hU.then_non hu⟩
set_option maxRecDepth 100000 in
set_option maxHeartbeats 8000000 in
theorem r15fits_c (p : Pt) : ∀ (w : World) (F : Nat → Prop) (KA : Option Addr) (kc g c : Nat) (s m : Int) (vs : List Int), PtK w F p KA kc → ¬ F g → VBlk w g (0 :: vs) → p.size ≤ 1000000000000 → vs.length ≤ 1000000 → 0 ≤ m →
  Calls Tryz.prog 51 #[pv p KA kc, .int .i64 s, .slice (some ⟨g, 0, none⟩) (vs.length + 1) c, .int .i64 m] w fun e w' => e = .returned (.bool (vPt p s m vs).1) ∧ VBlk w' g (0 :: (vPt p s m vs).2) ∧ Upd (· = g) w w' := by
 induction p using Pt.ind with
 | h p ih =>
  intro w F KA kc g c s m vs hp hFg hg hs hvs hm0;have hle := Pt.len_le p.kids;have hse := Pt.size_eq p;have HI := Lib.hid ih;have HPS := Lib.hid hs;have HV := Lib.hid (@vPt_var p);have HO := Lib.hid (@vPt_op p);obtain ⟨W, HW⟩ := nm (w.alloc (.cells #[.int .i64 p.v, .int .i64 p.op, .int .i64 p.imm, .int .i64 p.iv, .slice KA p.kids.length kc] 40))
  have hU : Upd Non w W := by rw [← HW.out]; exact Upd.refl.alloc _
  have hb : Blk W w.heap.size 40 #[.int .i64 p.v, .int .i64 p.op, .int .i64 p.imm, .int .i64 p.iv, .slice KA p.kids.length kc] := by rw [← HW.out]; exact Blk.new _ _ _
  have e0 := HW.out;have hgW : VBlk W g (0 :: vs) := Blk.upd hg hU (fun f => f);have hpW := PtK.upd hU (fun _ _ _ f => f) p KA kc hp;have hUg : Upd (· = g) w W := hU.mono (fun _ _ f => f.elim);have hglt : g < w.heap.size := Blk.lt hg;have hsz := hU.size
  have hn12 : p.kids.length ≤ 1000000000000 := by omega
  unfold pv;obtain ⟨R, HR⟩ := nm (vPt p s m vs);rw [HR.out];have HIM := Lib.hid (@imm_ok p m hm0);obtain ⟨v, Hv⟩ := nm p.v;obtain ⟨op, Hop⟩ := nm p.op;obtain ⟨imm, Him⟩ := nm p.imm;obtain ⟨iv, Hiv⟩ := nm p.iv;obtain ⟨n, Hn⟩ := nm p.kids.length;rw [Hv.out, Hop.out, Him.out, Hiv.out, Hn.out] at hb e0;rw [Hv.out, Hop.out, Him.out, Hiv.out, Hn.out];rw [Hn.out] at hn12
  rw [Hop.out, Him.out, Hiv.out] at HIM;have c0 := hb.cell 0;have c1 := hb.cell 1;have c2 := hb.cell 2;have c3 := hb.cell 3;have c4 := hb.cell 4;have hlb := hb.lt;clear ih hp hse hle hg hs
  by_cases hv : v = 0
  ·
   subst hv;obtain ⟨z, Hz⟩ : ∃ z, oSortsF op = z := ⟨_, rfl⟩;obtain ⟨ss, own, ok⟩ := z
   have HO2 : Hid (R = if ok = true ∧ n = ss.length ∧ (s = 0 ∨ s = own) ∧ pImmF p m = true then vKids p.kids ss m vs else (false, vs)) := by
    show _ = _;rw [← HR.out, HO.out Hv.out, Hop.out, Hz, Hn.out]
   have HAO := Lib.hid (allowed_ok op);have HAP := Lib.hid (@allowed_parts op);have CA := Lib.hid (fun w => arity_c op w);have CB := Lib.hid (fun w => r15allowed_c op w);have CS := Lib.hid (fun w => pSort_c op w);have CH := Lib.hid (fun w => r15HasImm_c op w);have CV := Lib.hid (fun w => validImm_c op imm w);have COS := Lib.hid (fun (k : Int) w => operandSort_c op k w);rw [HAO.out] at CB
   rw [Hz] at CB HAP HIM;dsimp only at CB HAP HIM;obtain ⟨za, Hza⟩ : ∃ z, arityF op = z := ⟨_, rfl⟩;obtain ⟨ar, aok⟩ := za;rw [Hza] at CA HAP;dsimp only at CA HAP;obtain ⟨sr, Hsr⟩ := nm (pSortF op);rw [Hsr.out] at CS HAP;obtain ⟨hi, Hhi⟩ := nm (hasImmF op);obtain ⟨vi, Hvi⟩ := nm (validImmF op imm);rw [Hhi.out] at CH;rw [Hvi.out] at CV;rw [Hhi.out, Hvi.out] at HIM;clear HV HO HR Hz Hza
   obtain ⟨bn, f1⟩ : ∃ b, ((n : Int) != ar) = b := ⟨_, rfl⟩;obtain ⟨b3, f3⟩ : ∃ b, (s != 0) = b := ⟨_, rfl⟩;obtain ⟨bs, f4⟩ : ∃ b, (sr != s) = b := ⟨_, rfl⟩;obtain ⟨b5, f5⟩ : ∃ b, decide (iv < 0) = b := ⟨_, rfl⟩;obtain ⟨b6, f6⟩ : ∃ b, decide (iv > m) = b := ⟨_, rfl⟩;obtain ⟨b7, f7⟩ : ∃ b, decide (iv > 0) = b := ⟨_, rfl⟩;obtain ⟨b8, f8⟩ : ∃ b, (imm != 0) = b := ⟨_, rfl⟩
   obtain ⟨b9, f9⟩ : ∃ b, (iv == 0) = b := ⟨_, rfl⟩;have F1 := Lib.hid f1;have F3 := Lib.hid f3;have F4 := Lib.hid f4;have F5 := Lib.hid f5;have F6 := Lib.hid f6;have F7 := Lib.hid f7;have F8 := Lib.hid f8;have F9 := Lib.hid f9;go_enter Tryz.func51, Tryz.ntmps51
   go_wp2_with fail
   refine (CA.out W).mono ?_;rintro e w2 ⟨rfl, rfl⟩
   go_upto_region 8 with fail
   go_cut [110] (fun t wx => t = .bool (!ok || bn || (b3 && bs) || b5 || b6) ∧ wx = W)
   case first =>
    cases ok with
    | false =>
     go_wp2_with fail
     refine (CB.out W).mono ?_;rintro e w2 ⟨rfl, rfl⟩
     go_wp2_with fail
     go_meet;exact ⟨rfl, rfl⟩
    | true => cases bn with
     | true =>
      go_wp2_with fail
      refine (CB.out W).mono ?_;rintro e w2 ⟨rfl, rfl⟩
      go_wp2_with fail
      go_meet;exact ⟨rfl, rfl⟩
     | false => cases b3 with
      | true => cases bs with
       | true =>
        go_wp2_with fail
        refine (CB.out W).mono ?_;rintro e w2 ⟨rfl, rfl⟩
        go_wp2_with fail
        refine (CS.out W).mono ?_;rintro e w2 ⟨rfl, rfl⟩
        go_wp2_with fail
        go_meet;exact ⟨rfl, rfl⟩
       | false =>
        cases b5 <;> cases b6
        all_goals
         go_wp2_with fail
         refine (CB.out W).mono ?_;rintro e w2 ⟨rfl, rfl⟩
         go_wp2_with fail
         refine (CS.out W).mono ?_;rintro e w2 ⟨rfl, rfl⟩
         go_wp2_with fail
         go_meet;exact ⟨rfl, rfl⟩
      | false =>
       cases b5 <;> cases b6
       all_goals
        go_wp2_with fail
        refine (CB.out W).mono ?_;rintro e w2 ⟨rfl, rfl⟩
        go_wp2_with fail
        go_meet;exact ⟨by cases bs <;> rfl, rfl⟩
   case rest =>
   obtain ⟨rfl, ew⟩ := hcut;obtain rfl : W = _ := ew.symm
   have HCond : Hid ((ok = true ∧ n = ss.length ∧ (s = 0 ∨ s = own) ∧ pImmF p m = true) ↔ ((!ok || bn || (b3 && bs) || b5 || b6) = false ∧ (b7 && (b8 || !hi) || b9 && !vi) = false)) := by
    show _ ↔ _;rw [← F1.out, ← F3.out, ← F4.out, ← F5.out, ← F6.out, ← F7.out, ← F8.out, ← F9.out]
    cases ok with
    | false => simp
    | true =>
     obtain ⟨a1, a2, _⟩ := HAP.out rfl;rw [HIM.out rfl, a1, a2]
     cases hi <;> cases vi <;> simp <;> omega
   cases hT : (!ok || bn || (b3 && bs) || b5 || b6) with
   | true =>
    have HR2 : Hid (R = (false, vs)) := by show _ = _; rw [HO2.out, if_neg (fun q => by rw [(HCond.out.1 q).1] at hT; cases hT)]
    clear HO2 hT
    go_wp2_with fail
    go_ret;exact ⟨by rw [HR2.out]; rfl, by rw [HR2.out]; exact hgW, hUg⟩
   | false =>
    have HT := Lib.hid hT;clear hT
    go_upto_region 10 with fail
    go_cut [137] (fun t wx => t = .bool (b7 && (b8 || !hi) || b9 && !vi) ∧ wx = W)
    case first =>
     cases b7 with
     | true =>
      have b9f : b9 = false := by rw [← F9.out, beq_eq_false_iff_ne]; have := of_decide_eq_true F7.out; omega
      subst b9f
      cases b8 with
      | true =>
       go_wp2_with fail
       go_meet;exact ⟨rfl, rfl⟩
      | false =>
       cases hi
       all_goals
        go_wp2_with fail
        refine (CH.out W).mono ?_;rintro e w2 ⟨rfl, rfl⟩
        go_wp2_with fail
        go_meet;exact ⟨rfl, rfl⟩
     | false => cases b9 with
      | true =>
       go_wp2_with fail
       refine (CV.out W).mono ?_;rintro e w2 ⟨rfl, rfl⟩
       go_wp2_with fail
       go_meet;exact ⟨by cases vi <;> rfl, rfl⟩
      | false =>
       go_wp2_with fail
       go_meet;exact ⟨rfl, rfl⟩
    case rest =>
    obtain ⟨rfl, ew⟩ := hcut;obtain rfl : W = _ := ew.symm
    cases hT2 : (b7 && (b8 || !hi) || b9 && !vi) with
    | true =>
     have HR2 : Hid (R = (false, vs)) := by show _ = _; rw [HO2.out, if_neg (fun q => by rw [(HCond.out.1 q).2] at hT2; cases hT2)]
     clear HO2 hT2
     go_wp2_with fail
     go_ret;exact ⟨by rw [HR2.out]; rfl, by rw [HR2.out]; exact hgW, hUg⟩
    | false =>
     have HCd := Lib.hid (HCond.out.2 ⟨HT.out, hT2⟩)
     have HR2 : Hid (R = vKids (p.kids.drop 0) (ss.drop 0) m vs) := by show _ = _; rw [HO2.out, if_pos HCd.out]; simp
     have HNS : Hid (n = ss.length) := HCd.out.2.1;have HST := Lib.hid (fun k (hk : k < p.kids.length) vk => @vKids_step p.kids ss m vk k hk (by rw [Hn.out]; exact HNS.out));have HVL := Lib.hid (fun (q : Pt) (s m : Int) vs => vPt_len q s m vs);have HSO : Hid (∀ k (hk : k < ss.length), operandSortF op k = ss[k]) := (HAP.out HCd.out.1).2.2
     clear HO2 hT2 HCond f1 f3 f4 f5 f6 f7 f8 f9 CA CB CS CH CV
     go_wp2_with fail
     go_loopg [11] n (fun gg i wr => ∃ (k : Nat) (vk : List Int), Hid (gg = n - k) ∧ k ≤ n ∧ i = .int .i64 k ∧ VBlk wr g (0 :: vk) ∧ vk.length = vs.length ∧ Hid (R = vKids (p.kids.drop k) (ss.drop k) m vk) ∧ Upd (· = g) W wr)
     case atStart => exact ⟨0, vs, rfl, by omega, rfl, hgW, rfl, HR2, Upd.refl⟩
     case round =>
      obtain ⟨k, vk, Hg, hk, rfl, hgk, hvk, HRk, hu⟩ := hrel;have c4r : wr.cell? ⟨w.heap.size, 4, none⟩ = some (.slice KA n kc) := cell_upd c4 hu (by omega);have c1r : wr.cell? ⟨w.heap.size, 1, none⟩ = some (.int .i64 op) := cell_upd c1 hu (by omega)
      by_cases hlt : k < n
      ·
       have hkl : k < p.kids.length := by rw [Hn.out]; exact hlt
       have hks : k < ss.length := by have := HNS.out; omega
       obtain ⟨b, o, rfl, hF, hbw, KB, kd, h0, h1, h2, h3, h4, h5⟩ := (PtK.upd hu (fun k _ hF e => hFg (by rw [← e]; exact hF)) p KA kc hpW).at_ hkl;have hmem0 := List.getElem_mem hkl;have hqs := Pt.kids_lt hmem0;have HRs := HST.out k hkl vk;have hps : p.size ≤ 1000000000000 := HPS.out;have hos := HSO.out k hks
       have hbg : b ≠ g := fun e => hFg (by rw [← e]; exact hF)
       rw [HRs] at HRk;clear HRs;generalize p.kids[k] = q at *;generalize ss[k] = x at *
       have i0 : (0 : Int) ≤ (k : Int) := by omega
       have i1 : (k : Int) < (n : Int) := by omega
       have hg4 : VBlk wr.drew g (0 :: vk) := hgk
       have C1 := Lib.hid (HI.out q hmem0 wr.drew F KB kd g c x m vk (PtK.upd (Upd.refl.drew (S := Non)) (fun _ _ _ f => f) q KB kd h5) hFg hg4 (by omega) (by omega) hm0)
       unfold pv at C1;rw [hvk] at C1;have HV1 := Lib.hid (HVL.out q x m vk);obtain ⟨r, Hr⟩ := nm (vPt q x m vk);obtain ⟨rb, rv⟩ := r;rw [Hr.out] at C1 HRk HV1
       have hrv : rv.length = vs.length := by rw [← hvk]; exact HV1.out
       have COk := Lib.hid (fun w => COS.out (k : Int) w);rw [hos] at COk;clear h5 hps hqs
       have hS : ∀ w', Upd (· = g) wr w' → w'.cell? ⟨w.heap.size, 4, none⟩ = some (.slice (some ⟨b, o, none⟩) n kc) ∧ w'.cell? ⟨w.heap.size, 1, none⟩ = some (.int .i64 op) ∧ w'.cell? ⟨b, o + k * 5, none⟩ = some (.int .i64 q.v) ∧ w'.cell? ⟨b, o + k * 5 + 1, none⟩ = some (.int .i64 q.op) ∧ w'.cell? ⟨b, o + k * 5 + 2, none⟩ = some (.int .i64 q.imm) ∧ w'.cell? ⟨b, o + k * 5 + 3, none⟩ = some (.int .i64 q.iv) ∧ w'.cell? ⟨b, o + k * 5 + 4, none⟩ = some (.slice KB q.kids.length kd) := fun w' u => ⟨cell_upd c4r u (by omega), cell_upd c1r u (by omega), cell_upd h0 u hbg, cell_upd h1 u hbg, cell_upd h2 u hbg, cell_upd h3 u hbg, cell_upd h4 u hbg⟩
       obtain ⟨w4, e4⟩ : ∃ w4 : World, w4 = wr := ⟨_, rfl⟩;subst e4
       go_wp2_with fail
       refine wp_region_held_drew (S := fun w' => w'.cell? ⟨w.heap.size, 4, none⟩ = some (.slice (some ⟨b, o, none⟩) n kc) ∧ w'.cell? ⟨w.heap.size, 1, none⟩ = some (.int .i64 op) ∧ w'.cell? ⟨b, o + k * 5, none⟩ = some (.int .i64 q.v) ∧ w'.cell? ⟨b, o + k * 5 + 1, none⟩ = some (.int .i64 q.op) ∧ w'.cell? ⟨b, o + k * 5 + 2, none⟩ = some (.int .i64 q.imm) ∧ w'.cell? ⟨b, o + k * 5 + 3, none⟩ = some (.int .i64 q.iv) ∧ w'.cell? ⟨b, o + k * 5 + 4, none⟩ = some (.slice KB q.kids.length kd)) (by kernel_rfl) (hS _ (Upd.refl (S := (· = g))).drew) (fun hHeld => ?_)
       refine wpT 0 ?_
       try simp only [put_y, put_z]
       refine wpT 1 ?_
       try simp only [put_y, put_z]
       refine wpT 2 ?_
       try simp only [put_y, put_z]
       refine wpT 3 ?_
       try simp only [put_y, put_z]
       refine wpT 4 ?_
       try simp only [put_y, put_z]
       refine wpT 5 ?_
       try simp only [put_y, put_z]
       refine wpT 6 ?_
       try simp only [put_y, put_z]
       refine wpT 7 ?_
       try simp only [put_y, put_z]
       refine wpAnyH_takeC (i := 8) (v := ?v1) rfl (by kernel_rfl) (by kernel_rfl) (by kernel_rfl) (fun _ _ _ h => h) ⟨by rfl, ?f1, ?a1, ?r1, ?c1⟩ (by assumption) ?m1
       case r1 => intro w; go_simp; constructor <;> with_reducible rfl
       case c1 => intro W hSw; refine (COk.out W).mono ?_; rintro e w' ⟨rfl, rfl⟩; constructor <;> with_reducible rfl
       try simp only [put_y, put_z]
       refine wpT 9 ?_
       try simp only [put_y, put_z]
       refine wpT 10 ?_
       try simp only [put_y, put_z]
       refine wpAnyH_ready (rs := [11]) (by kernel_rfl) (by simp) ?_;refine AllReadyH.cons rfl (fun K hK => ?_) AllReadyH.nil;go_simp;refine C1.out.mono ?_;rintro e w5 ⟨rfl, hg5, hu5'⟩;have hu5 : Upd (· = g) w4 w5 := (Upd.refl.drew (S := (· = g))).trans hu5' (fun _ _ q => q)
       go_wp2_with fail
       refine hK.out _ _ ?_ (fun hHeld => ?_)
       ·
        exact hS _ hu5
       clear hK K
       try simp only [put_y, put_z]
       refine wpT 12 ?_
       try simp only [put_y, put_z]
       refine wpAnyH_done (by kernel_rfl) ?_ _
       cases rb with
       | true =>
        have HRn : Hid (R = vKids (p.kids.drop (k + 1)) (ss.drop (k + 1)) m rv) := by show _ = _; rw [HRk.out]; rfl
        clear C1 hS
        go_wp2_with fail
        go_roundg (n - (k + 1))
        case measure => rw [Hg.out]; omega
        case rel => exact ⟨k + 1, rv, rfl, by omega, by go_num, hg5, hrv, HRn, hu.trans hu5 (fun _ _ q => q)⟩
       | false =>
        have HRn : Hid (R = (false, rv)) := by show _ = _; rw [HRk.out]; rfl
        clear C1 hS
        go_wp2_with fail
        go_ret;exact ⟨by rw [HRn.out]; rfl, by rw [HRn.out]; exact hg5, (hUg.trans hu (fun _ _ q => q)).trans hu5 (fun _ _ q => q)⟩
      ·
       obtain rfl : n = k := by omega
       have HRz : Hid (R = (true, vk)) := by
        show _ = _;rw [HRk.out, List.drop_eq_nil_of_le (by rw [Hn.out]; exact Nat.le_refl _)];rfl
       go_wp2_with fail
       go_ret;exact ⟨by rw [HRz.out]; rfl, by rw [HRz.out]; exact hgk, hUg.trans hu (fun _ _ q => q)⟩
  ·
   have t0 : (v != 0) = true := by simpa using hv
   have HV2 : Hid (R = if v < 1 ∨ v > vs.length ∨ op ≠ 0 ∨ imm ≠ 0 ∨ iv ≠ 0 ∨ 0 < n then (false, vs) else if vs.getD (v - 1).toNat 0 = 0 then (true, vs.set (v - 1).toNat s) else (decide (s = 0 ∨ s = vs.getD (v - 1).toNat 0), vs)) := by
    show _ = _;rw [← HR.out, HV.out (by rw [Hv.out]; exact hv), Hv.out, Hop.out, Him.out, Hiv.out, Hn.out]
   clear HV HO HI HIM
   by_cases hbad : v < 1 ∨ v > vs.length ∨ op ≠ 0 ∨ imm ≠ 0 ∨ iv ≠ 0 ∨ 0 < n
   ·
    have HRv : Hid (R = (false, vs)) := by show _ = _; rw [HV2.out, if_pos hbad]
    rw [HRv.out];have Hbad := Lib.hid hbad;obtain ⟨b1, f1⟩ : ∃ b, decide (v < 1) = b := ⟨_, rfl⟩;obtain ⟨b2, f2⟩ : ∃ b, decide (v ≥ (vs.length : Int) + 1) = b := ⟨_, rfl⟩;obtain ⟨b3, f3⟩ : ∃ b, (op != 0) = b := ⟨_, rfl⟩;obtain ⟨b4, f4⟩ : ∃ b, (imm != 0) = b := ⟨_, rfl⟩;obtain ⟨b5, f5⟩ : ∃ b, (iv != 0) = b := ⟨_, rfl⟩;obtain ⟨b6, f6⟩ : ∃ b, ((n : Int) != 0) = b := ⟨_, rfl⟩
    have HB : Hid ((b1 || b2 || b3 || b4 || b5 || b6) = true) := by
     show _ = _;rw [← f1, ← f2, ← f3, ← f4, ← f5, ← f6];simp;omega
    clear hbad
    cases b1 with
    | true =>
     go_enter Tryz.func51, Tryz.ntmps51
     go_wp2_with fail
     go_ret;exact ⟨rfl, hgW, hUg⟩
    | false => cases b2 with
     | true =>
      go_enter Tryz.func51, Tryz.ntmps51
      go_wp2_with fail
      go_ret;exact ⟨rfl, hgW, hUg⟩
     | false => cases b3 with
      | true =>
       go_enter Tryz.func51, Tryz.ntmps51
       go_wp2_with fail
       go_ret;exact ⟨rfl, hgW, hUg⟩
      | false => cases b4 with
       | true =>
        go_enter Tryz.func51, Tryz.ntmps51
        go_wp2_with fail
        go_ret;exact ⟨rfl, hgW, hUg⟩
       | false => cases b5 with
        | true =>
         go_enter Tryz.func51, Tryz.ntmps51
         go_wp2_with fail
         go_ret;exact ⟨rfl, hgW, hUg⟩
        | false => cases b6 with
         | true =>
          have hn0 : n ≠ 0 := by intro q; subst q; simp at f6
          have hn1 : (n == 0) = false := by simpa using hn0
          go_enter Tryz.func51, Tryz.ntmps51
          go_wp2_with fail
          go_ret;exact ⟨rfl, hgW, hUg⟩
         | false => exact absurd HB.out (by simp)
   ·
    rw [if_neg hbad] at HV2;obtain ⟨i, hi⟩ := Int.eq_ofNat_of_zero_le (show 0 ≤ v - 1 by omega)
    have hil : i < vs.length := by omega
    obtain rfl : op = 0 := by omega
    obtain rfl : imm = 0 := by omega
    obtain rfl : iv = 0 := by omega
    obtain rfl : n = 0 := by omega
    rw [hi, Int.toNat_natCast] at HV2;obtain ⟨j, Hj⟩ := nm (i + 1);have hj1 := Hj.out
    obtain rfl : v = (j : Int) := by omega
    have t1 : decide ((j : Int) < 1) = false := decide_eq_false (by omega);have t2 : decide ((j : Int) ≥ (vs.length : Int) + 1) = false := decide_eq_false (by omega)
    have cg : W.cell? ⟨g, j, none⟩ = some (.int .i64 (vs.getD i 0)) := by have := VBlk.cell hgW (i := i + 1) (by simpa using hil); rw [hj1] at this; rw [this, ← hj1]; simp
    have fg := Blk.frozen hgW j
    have i0 : (0 : Int) ≤ (j : Int) := by omega
    have i1 : (j : Int) < (vs.length : Int) + 1 := by omega
    have hset : VBlk (W.setCell ⟨g, j, none⟩ (.int .i64 s)) g (0 :: vs.set i s) := by have := VBlk.set_ hgW (i + 1) s; rw [hj1] at this; rw [show (0 :: vs.set i s) = (0 :: vs).set j s by rw [← hj1]; rfl]; exact this
    have uset := updCell W g j (.int .i64 s);clear hj1 hi;clear hbad HR Hv Hop Him Hiv Hn hpW
    by_cases hs0 : s = 0
    ·
     subst hs0
     have HV3 : Hid (R = (true, vs)) := by
      show _ = _;rw [HV2.out]
      by_cases hy : vs.getD i 0 = 0
      ·
       rw [if_pos hy]
       have : vs.set i 0 = vs := by
        apply List.ext_getElem (by simp);intro j h1 h2;rw [List.getElem_set]
        split
        ·
         rename_i e; subst e; rw [getD_of hil] at hy; exact hy.symm
        ·
         rfl
       rw [this]
      ·
       rw [if_neg hy]; simp
     rw [HV3.out];clear HV2 HV3;go_enter Tryz.func51, Tryz.ntmps51
     go_wp2_with fail
     go_ret;exact ⟨rfl, hgW, hUg⟩
    ·
     have ts : (s != 0) = true := by simpa using hs0
     have ts2 : (s == 0) = false := by simpa using hs0
     obtain ⟨y, Hy⟩ := nm (vs.getD i 0);rw [Hy.out] at HV2 cg
     by_cases hy : y = 0
     ·
      rw [if_pos hy] at HV2;subst hy;rw [HV2.out];clear HV2
      have tss : (s == s) = true := by simp
      go_enter Tryz.func51, Tryz.ntmps51
      go_wp2_with fail
      go_ret;exact ⟨rfl, hset, hUg.trans uset (fun _ _ q => q)⟩
     ·
      rw [if_neg hy] at HV2
      have ty : (y == 0) = false := by simpa using hy
      by_cases hsy : s = y
      ·
       subst hsy
       have tt : (s == s) = true := by simp
       have HV3 : Hid (R = (true, vs)) := by show _ = _; rw [HV2.out]; simp
       rw [HV3.out];clear HV2 HV3;go_enter Tryz.func51, Tryz.ntmps51
       go_wp2_with fail
       go_ret;exact ⟨rfl, hgW, hUg⟩
      ·
       have tt : (y == s) = false := by simp; omega
       have HV3 : Hid (R = (false, vs)) := by show _ = _; rw [HV2.out]; simp [hs0, hsy]
       rw [HV3.out];clear HV2 HV3;go_enter Tryz.func51, Tryz.ntmps51
       go_wp2_with fail
       go_ret;exact ⟨rfl, hgW, hUg⟩
end Go.Proofs.YtblkgjdhaibhgaaGreat
