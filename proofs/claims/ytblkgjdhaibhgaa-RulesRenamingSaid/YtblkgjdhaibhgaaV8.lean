/-
  Lemmas and walks that the claim rests on, part 8 (packed by a program).
-/
import Derived.Test.YtblkgjdhaibhgaaV5
import Derived.Test.YtblkgjdhaibhgaaV7
import Derived.Deep.CutBlock
import Derived.Test.YtblkgjdhaibhgaaV6
import Derived.Test.YtblkgjdhaibhgaaV3
namespace Go.Proofs.Ytblkgjdhaibhgaa
open Go.RowKit
set_option maxRecDepth 100000 in
set_option maxHeartbeats 4000000 in
theorem rParse_c (ax : Bs → Option Rl) (hax : ∀ s r, ax s = some r → RlSz r) (s : ByteArray)
  (HAX : Hid ((∃ i, tkF (goodT (toksF (kx s))) i = some [97, 120, 105, 111, 109]) → ∀ (q : Bs) (w : World), Calls Try.prog 10 #[.string (kstr q)] w (AxP ax q w))) (w : World) :
  Calls Try.prog 7 #[.string s] w (ParseP (parseG ax (kx s)) w) := by
 have HP : Hid (parseG ax (kx s) = if 20000 < (kx s).length then .error (6, 20000) else loopF (goodT (toksF (kx s))) (finT (toksF (kx s))) ax (kx s).length ((kx s).length + 1) ⟨0, [], []⟩ []) := rfl
 obtain ⟨R, HR⟩ := nm (parseG ax (kx s))
 rw [HR.out] at HP ⊢
 obtain ⟨n, Hn⟩ := nm s.size
 have hn := Hn.out
 have hkn : (kx s).length = n := by rw [kx_len, hn]
 rw [hkn] at HP
 have hx0 : Upd Non w (w.alloc (.cells #[.int .i64 0, .int .i64 0] 25)) := Upd.refl.alloc _
 have hb0 : Blk (w.alloc (.cells #[.int .i64 0, .int .i64 0] 25)) w.heap.size 25 #[.int .i64 0, .int .i64 0] := Blk.new _ _ _
 by_cases hbig : 20000 < n
 ·
  have t0 : decide ((20000 : Int) < (n : Int)) = true := decide_eq_true (by omega)
  have HE : Hid (R = .error (6, 20000)) := by show _ = _; rw [HP.out, if_pos hbig]
  clear hbig hkn
  go_enter Try.func7, Try.ntmps7
  go_wp2_with fail
  refine bodyPost_ret (results_tmp_cell rfl _ _ w.heap.size 25 _ (0, 0) _ rfl (Blk.new _ _ _) Try.underlying25 rfl (by kernel_rfl)) rfl ?_
  exact ⟨Upd.refl.alloc _, .inl ⟨_, HE.out, rfl⟩⟩
 ·
  have t0 : decide ((20000 : Int) < (n : Int)) = false := decide_eq_false (by omega)
  have HE : Hid (R = loopF (goodT (toksF (kx s))) (finT (toksF (kx s))) ax n (n + 1) ⟨0, [], []⟩ []) := by show _ = _; rw [HP.out, if_neg hbig]
  have hn2 : n ≤ 20000 := by omega
  obtain ⟨W1, HW1⟩ := nm (w.alloc (.cells #[.int .i64 0, .int .i64 0] 25))
  have CT := Lib.hid (rTokenize_c s W1 (by omega))
  have e1 := HW1.out
  rw [e1] at hx0 hb0
  have s1 : W1.heap.size = w.heap.size + 1 := by rw [← e1]; simp
  have HB1 := Lib.hid hb0
  have HU1 := Lib.hid hx0
  have hkl : (kx s).length ≤ 20000 := by omega
  obtain ⟨LT, HLT⟩ := nm (toksF (kx s))
  have HLK : Hid (LT.length ≤ n + 1 → LOk LT (goodT LT) (finT LT)) := fun q => by
   have := lok_toks hkl (by rw [HLT.out, hkn]; exact q)
   rw [HLT.out] at this
   exact this
  rw [HLT.out] at CT HE HAX
  obtain ⟨T, HT⟩ := nm (goodT LT)
  obtain ⟨fin, HF⟩ := nm (finT LT)
  rw [HT.out] at HE HAX HLK
  rw [HF.out] at HE HLK
  clear hbig hkn hx0 hb0 HP hkl
  go_enter Try.func7, Try.ntmps7
  go_wp2_with fail
  refine CT.out.mono ?_
  rintro e w2 ⟨A, c, rfl, hto, hat, hlen, hu2⟩
  rw [hn] at hlen
  have hLK := HLK.out hlen
  obtain ⟨W3, HW3⟩ := nm (w2.alloc (.cells #[.slice A LT.length c, .int .i64 0, .int .i64 0, .int .i64 0, .slice none 0 0, .slice none 0 0, .bool false] 57))
  have hp2 : w2.heap.size = w2.heap.size := rfl
  have u3 : Upd Non w2 W3 := by rw [← HW3.out]; exact Upd.refl.alloc _
  have b3 : Blk W3 w2.heap.size 57 #[.slice A LT.length c, .int .i64 0, .int .i64 0, .int .i64 0, .slice none 0 0, .slice none 0 0, .bool false] := by rw [← HW3.out]; exact Blk.new _ _ _
  have s3 : W3.heap.size = w2.heap.size + 1 := by rw [← HW3.out]; simp
  have hs2 := hu2.size
  obtain ⟨W4, HW4⟩ := nm (W3.alloc (.map #[] 0))
  have u4 : Upd Non W3 W4 := by rw [← HW4.out]; exact Upd.refl.alloc _
  have HS : Hid (PaS w W4 w2.heap.size (w2.heap.size + 1) A c LT ⟨0, 0, 0, none, 0, [], none, 0, [], false⟩ none 0 []) := by
   have hr3 : RdS W3 w2.heap.size A c LT ⟨0, 0, 0, none, 0, [], none, 0, [], false⟩ := ⟨b3, (hto.view.upd u3 (fun _ _ _ f => f)).mono (fun k hk q => Own.lt hto q), Own.le hto, Own.none_, Own.none_, fun k q => (At.none_ q).elim, fun k q => (At.none_ q).elim, fun k q => (At.none_ q).elim⟩
   refine ⟨hr3.non u4, ((HB1.out.upd hu2 (fun f => f)).upd u3 (fun f => f)).upd u4 (fun f => f), RlO.none_, ?_, fun k q => ?_, fun k q => (At.none_ q).elim, by omega, ((HU1.out.then_non hu2).then_non u3).then_non u4⟩
   ·
    rw [nmV_nil, ← HW4.out, ← s3]; exact SMap.new W3
   ·
    rcases q with q | q | q
    ·
     omega
    ·
     exact (At.none_ q).elim
    ·
     exact (At.none_ q).elim
  have HG : Hid (Good T ⟨0, 0, 0, none, 0, [], none, 0, [], false⟩) := ⟨Nat.zero_le _, fun _ => ⟨Nat.le_refl _, Nat.le_refl _⟩⟩
  have HL : Hid (LpR T fin ax n R ⟨0, 0, 0, none, 0, [], none, 0, [], false⟩ [] (n + 1)) := ⟨fun _ => ⟨by have := hLK.lt; show T.length < n + 1 + 0; omega, Nat.zero_le _, HE.out.symm⟩, fun q => absurd rfl q⟩
  have HLT : Hid (LOk LT T fin) := hLK
  have hmm := @run_makeMap Try.prog
  clear b3 u3 u4 hs2 hu2 hat hto HW1 HB1 HU1 HE HLK e1 hLK hp2
  go_wp2_with fail
  rw [HW3.out, HW4.out]
  clear hmm
  go_loopg [5, 7, 8, 9, 43, 47, 54, 62, 71] (n + 1) (fun g o _ _ _ _ _ _ _ _ wr => ∃ (fu : Nat) (y : St) (OA : Option Addr) (oc : Nat) (Q : List Rl), Hid (g = fu) ∧ o = .slice OA Q.length oc ∧ Hid (PaS w wr w2.heap.size (w2.heap.size + 1) A c LT y OA oc Q) ∧ Hid (Good T y) ∧ Hid (LpR T fin ax n R y Q fu) ∧ Q.length ≤ 161)
  case atStart => exact ⟨_, _, none, 0, [], rfl, rfl, HS, HG, HL, Nat.zero_le _⟩
  case round =>
   clear HS HG HL
   obtain ⟨fu, y, OA, oc, Q, Hfu, rfl, HS, HG, HL, hQl⟩ := hrel
   have hyl : y.i < LT.length := by have := HLT.out.lt; have := HG.out.1; omega
   obtain ⟨D, HD⟩ := nm (y.why == 0 && decide (offF T fin y.i < n))
   have HD0 := HD
   rw [← HLT.out.pos HG.out.1, posT_eq hyl] at HD
   go_upto_region 6 with fail
   go_cut [36] (fun s wx => s = .bool D ∧ Upd Non wr wx)
   case first =>
    obtain ⟨c0, c1, c2, c3, c4, c5, c6⟩ := HS.out.rd.cells
    obtain ⟨b, o, rfl, hF, hb, t0_, t1, t2⟩ := HS.out.rd.tok.at_ hyl
    have hle := HS.out.rd.le
    have HH := Lib.hid HS.out.rd
    obtain ⟨ln, Hln⟩ := nm LT.length
    rw [Hln.out] at c0 hyl hle
    obtain ⟨i, Hi⟩ := nm y.i
    rw [Hi.out] at c1 hyl
    have t1' : wr.cell? ⟨b, o + i * 3 + 1, none⟩ = some (.int .i64 LT[y.i].pos) := by rw [← Hi.out]; exact t1
    generalize LT[y.i].pos = pz at *
    obtain ⟨z, Hz⟩ := nm (y.why == 0)
    rw [Hz.out] at HD
    have CO : Hid (∀ w', Upd Non wr w' → Calls Try.prog 17 #[.pointer (some ⟨w2.heap.size, 0, none⟩)] w' fun e w2 => e = .returned (.bool z) ∧ w2 = w') := fun w' u => by
     rw [← Hz.out]; exact rOk_c (HH.out.non u)
    obtain ⟨dd, Hdd⟩ := nm (decide (pz < n))
    rw [Hdd.out] at HD
    have hdd : decide ((pz : Int) < (n : Int)) = dd := by rw [← Hdd.out]; simp
    clear t0_ t1 t2 c2 c3 c4 c5 c6 HS HG HL CT
    obtain ⟨wD, HwD⟩ := nm wr.drew
    have uD : Upd Non wr wD := by rw [← HwD.out]; exact Upd.refl.drew
    refine wp_region_held_drew (S := fun w' => Upd Non wr w' ∧ w'.cell? ⟨w2.heap.size, 0, none⟩ = some (.slice (some ⟨b, o, none⟩) ln c) ∧ w'.cell? ⟨w2.heap.size, 1, none⟩ = some (.int .i64 i) ∧ w'.cell? ⟨b, o + i * 3 + 1, none⟩ = some (.int .i64 pz)) (by kernel_rfl) (by rw [HwD.out]; exact ⟨uD, cell_upd c0 uD (fun f => f), cell_upd c1 uD (fun f => f), cell_upd t1' uD (fun f => f)⟩) (fun hHeld => ?_)
    rw [HwD.out] at hHeld ⊢
    refine wpT 0 ?_
    try simp only [put_y]
    try simp only [Act.put]
    try simp only [put_z]
    refine wpAnyH_takeC (i := 1) (v := ?v1) rfl (by kernel_rfl) (by kernel_rfl) (by kernel_rfl) (fun _ _ _ h => h) ⟨by rfl, ?f1, ?a1, ?r1, ?c1⟩ (by assumption) ?m1
    case r1 => intro w; go_simp; constructor <;> with_reducible rfl
    case c1 => intro W hSw; refine (CO.out _ hSw.1).mono ?_; rintro e w' ⟨rfl, rfl⟩; constructor <;> with_reducible rfl
    try simp only [put_y]
    try simp only [Act.put]
    try simp only [put_z]
    cases z with
    | false =>
     obtain rfl : D = false := by rw [← HD.out]; rfl
     refine wpT 2 ?_
     try simp only [put_y]
     try simp only [Act.put]
     try simp only [put_z]
     refine wpU 3 ?_
     try simp only [put_y]
     try simp only [Act.put]
     try simp only [put_z]
     refine wpU 4 ?_
     try simp only [put_y]
     try simp only [Act.put]
     try simp only [put_z]
     refine wpU 5 ?_
     try simp only [put_y]
     try simp only [Act.put]
     try simp only [put_z]
     refine wpU 6 ?_
     try simp only [put_y]
     try simp only [Act.put]
     try simp only [put_z]
     refine wpU 7 ?_
     try simp only [put_y]
     try simp only [Act.put]
     try simp only [put_z]
     refine wpU 8 ?_
     try simp only [put_y]
     try simp only [Act.put]
     try simp only [put_z]
     refine wpU 9 ?_
     try simp only [put_y]
     try simp only [Act.put]
     try simp only [put_z]
     refine wpU 10 ?_
     try simp only [put_y]
     try simp only [Act.put]
     try simp only [put_z]
     refine wpU 11 ?_
     try simp only [put_y]
     try simp only [Act.put]
     try simp only [put_z]
     refine wpU 12 ?_
     try simp only [put_y]
     try simp only [Act.put]
     try simp only [put_z]
     refine wpU 13 ?_
     try simp only [put_y]
     try simp only [Act.put]
     try simp only [put_z]
     refine wpU 14 ?_
     try simp only [put_y]
     try simp only [Act.put]
     try simp only [put_z]
     refine wpU 15 ?_
     try simp only [put_y]
     try simp only [Act.put]
     try simp only [put_z]
     refine wpU 16 ?_
     try simp only [put_y]
     try simp only [Act.put]
     try simp only [put_z]
     refine wpT 17 ?_
     try simp only [put_y]
     try simp only [Act.put]
     try simp only [put_z]
     refine wpAnyH_done (by kernel_rfl) ?_ _
     go_wp2_with fail
     go_meet
     case rel => exact ⟨rfl, uD⟩
    | true =>
     obtain rfl : dd = D := by rw [← HD.out]; rfl
     refine wpT 2 ?_
     try simp only [put_y]
     try simp only [Act.put]
     try simp only [put_z]
     refine wpT 3 ?_
     try simp only [put_y]
     try simp only [Act.put]
     try simp only [put_z]
     refine wpT 4 ?_
     try simp only [put_y]
     try simp only [Act.put]
     try simp only [put_z]
     refine wpT 5 ?_
     try simp only [put_y]
     try simp only [Act.put]
     try simp only [put_z]
     refine wpT 6 ?_
     try simp only [put_y]
     try simp only [Act.put]
     try simp only [put_z]
     refine wpT 7 ?_
     try simp only [put_y]
     try simp only [Act.put]
     try simp only [put_z]
     refine wpT 8 ?_
     try simp only [put_y]
     try simp only [Act.put]
     try simp only [put_z]
     refine wpT 9 ?_
     try simp only [put_y]
     try simp only [Act.put]
     try simp only [put_z]
     refine wpT 10 ?_
     try simp only [put_y]
     try simp only [Act.put]
     try simp only [put_z]
     refine wpT 11 ?_
     try simp only [put_y]
     try simp only [Act.put]
     try simp only [put_z]
     refine wpT 12 ?_
     try simp only [put_y]
     try simp only [Act.put]
     try simp only [put_z]
     refine wpT 13 ?_
     try simp only [put_y]
     try simp only [Act.put]
     try simp only [put_z]
     refine wpT 14 ?_
     try simp only [put_y]
     try simp only [Act.put]
     try simp only [put_z]
     refine wpT 15 ?_
     try simp only [put_y]
     try simp only [Act.put]
     try simp only [put_z]
     refine wpT 16 ?_
     try simp only [put_y]
     try simp only [Act.put]
     try simp only [put_z]
     refine wpT 17 ?_
     try simp only [put_y]
     try simp only [Act.put]
     try simp only [put_z]
     refine wpAnyH_done (by kernel_rfl) ?_ _
     go_wp2_with fail
     go_meet
     case rel => exact ⟨congrArg Value.bool Hdd.out, uD⟩
   case rest =>
    obtain ⟨rfl, hwc⟩ := hcut
    have HS := Lib.hid (HS.out.non hwc)
    clear hwc
    cases D with
    | false =>
     obtain ⟨hx1, hx2⟩ := HL.out.exit HG.out.1 HD0.out
     have CO := Lib.hid (rOk_c HS.out.rd)
     have her := HS.out.er
     have r0 := her.cell 0
     have r1 := her.cell 1
     have rf := her.frozen
     obtain ⟨z, Hz⟩ := nm (y.why == 0)
     rw [Hz.out] at CO
     have HX1 := Lib.hid hx1
     have HX2 := Lib.hid hx2
     clear hx1 hx2 HL HD HD0
     cases z with
     | true =>
      have H0 : Hid (y.why = 0) := by have := Hz.out; exact beq_iff_eq.1 this
      go_wp2_with fail
      refine CO.out.mono ?_
      rintro e w5 ⟨rfl, rfl⟩
      go_wp2_with fail
      rw [setE2_eq]
      obtain ⟨f1, f2, f3, f4⟩ := HS.out.res (.int .i64 0) (.int .i64 0)
      refine bodyPost_ret (results_tmp_cell rfl _ _ w.heap.size 25 _ (0, 0) _ rfl f1 Try.underlying25 rfl (by kernel_rfl)) rfl ?_
      exact ⟨f2, .inr ⟨Q, OA, oc, HX1.out H0.out, rfl, f4, HS.out.out.le⟩⟩
     | false =>
      have H0 : Hid (y.why ≠ 0) := by have := Hz.out; exact fun q => by rw [q] at this; cases this
      go_wp2_with fail
      refine CO.out.mono ?_
      rintro e w5 ⟨rfl, rfl⟩
      go_upto_region 20 with fail
      obtain ⟨wD, HwD⟩ := nm w5.drew
      have uD : Upd Non w5 wD := by rw [← HwD.out]; exact Upd.refl.drew
      have HS := Lib.hid (HS.out.non uD)
      clear her r0 r1 rf
      have hcs := HS.out.rd.cells
      refine wp_region_held_drew (S := fun w' => w'.cell? ⟨w2.heap.size, 2, none⟩ = some (.int .i64 y.why) ∧ w'.cell? ⟨w2.heap.size, 3, none⟩ = some (.int .i64 y.ea)) (by kernel_rfl) (by rw [HwD.out]; exact ⟨hcs.2.2.1, hcs.2.2.2.1⟩) (fun hHeld => ?_)
      rw [HwD.out] at hHeld ⊢
      refine wpT 0 ?_
      try simp only [put_y]
      try simp only [Act.put]
      try simp only [put_z]
      refine wpT 1 ?_
      try simp only [put_y]
      try simp only [Act.put]
      try simp only [put_z]
      refine wpT 2 ?_
      try simp only [put_y]
      try simp only [Act.put]
      try simp only [put_z]
      refine wpT 3 ?_
      try simp only [put_y]
      try simp only [Act.put]
      try simp only [put_z]
      refine wpT 4 ?_
      try simp only [put_y]
      try simp only [Act.put]
      try simp only [put_z]
      have her := HS.out.er
      have r0 := her.cell 0
      have r1 := her.cell 1
      have rf := her.frozen
      refine wpAnyH_ready (rs := [5]) (by kernel_rfl) (by simp) ?_
      refine AllReadyH.cons rfl (fun K hK => ?_) AllReadyH.nil
      go_simp
      rw [setE2_eq]
      have HF := Lib.hid (HS.out.res (.int .i64 y.why) (.int .i64 y.ea))
      obtain ⟨W9, HW9⟩ := nm (setE2 wD w.heap.size (.int .i64 y.why) (.int .i64 y.ea))
      rw [HW9.out] at HF ⊢
      refine hK.out _ _ ?_ (fun hHeld => ?_)
      ·
       exact ⟨HF.out.2.2.1.cell 2, HF.out.2.2.1.cell 3⟩
      clear hK K
      try simp only [put_y]
      try simp only [Act.put]
      try simp only [put_z]
      refine wpAnyH_done (by kernel_rfl) ?_ _
      go_wp2_with fail
      refine bodyPost_ret (results_tmp_cell rfl _ _ w.heap.size 25 _ (0, 0) _ rfl HF.out.1 Try.underlying25 rfl (by kernel_rfl)) rfl ?_
      exact ⟨HF.out.2.1, .inl ⟨_, HX2.out H0.out, rfl⟩⟩
    | true =>
     have hD := HD0.out
     simp only [Bool.and_eq_true, beq_iff_eq, decide_eq_true_eq] at hD
     have H0 := Lib.hid hD.1
     have HDT := Lib.hid hD.2
     have CIT := Lib.hid (rItem_c HLT.out ax HAX HS.out.rd HG.out)
     clear hD HD HD0 CT
     go_wp2_with fail
     refine CIT.out.mono ?_
     rintro e w5 ⟨rl, a, ts, tp, b, y', rfl, hrk, hrd', hg', ho', hu', hres⟩
     have HS5 := Lib.hid (HS.out.call hrd' ho' hu')
     have hmw : w2.heap.size + 1 < wc.heap.size := HS.out.map.lt
     have hoa : ∀ k, At OA k → k < wc.heap.size := fun k q => HS.out.out.lt q
     have hs5 := hu'.size
     obtain ⟨m, Hm⟩ := nm wc.heap.size
     rw [Hm.out] at hrk hmw hoa hs5
     have HRK := Lib.hid hrk
     have HOA := Lib.hid hoa
     clear hoa Hm
     have HG' := Lib.hid hg'
     have hQ2 : Q.length ≤ 160 := (HL.out.1 H0.out).2.1
     have HRD := Lib.hid (HL.out.item HLT.out hax HG.out.1 H0.out HDT.out hres)
     clear hrk hrd' hg' ho' hu' hres CIT HS HL HG H0 HDT
     unfold rlv tokVal rlCells
     go_upto_block 2 with fail
     obtain ⟨W6, HW6⟩ := nm (w5.alloc (.cells #[.string rl.name, .int .i64 rl.l.v, .int .i64 rl.l.op, .int .i64 rl.l.imm, .int .i64 rl.l.iv, .slice a.la rl.l.kids.length a.lc, .int .i64 rl.r.v, .int .i64 rl.r.op, .int .i64 rl.r.imm, .int .i64 rl.r.iv, .slice a.ra rl.r.kids.length a.rc, .slice a.ca rl.conds.length a.cc, .int .i64 rl.vars, .int .i64 rl.imms] 33))
     have u6 : Upd Non w5 W6 := by rw [← HW6.out]; exact Upd.refl.alloc _
     have b6 : Blk W6 w5.heap.size 33 (rlCells rl a) := by rw [← HW6.out]; exact Blk.new _ _ _
     have s6 : W6.heap.size = w5.heap.size + 1 := by rw [← HW6.out]; simp
     rw [HW6.out]
     obtain ⟨W7, HW7⟩ := nm (W6.alloc (.cells #[.string (kstr ts), .int .i64 tp, .bool false] 60))
     have u7 : Upd Non W6 W7 := by rw [← HW7.out]; exact Upd.refl.alloc _
     have b7 : Blk W7 (w5.heap.size + 1) 60 #[.string (kstr ts), .int .i64 tp, .bool false] := by rw [← HW7.out, ← s6]; exact Blk.new _ _ _
     rw [HW7.out]
     have hu7 : Upd Non w5 W7 := u6.then_non u7
     have HS := Lib.hid (HS5.out.non hu7)
     have HRK := Lib.hid (HRK.out.upd hu7 (fun _ _ _ f => f))
     have HX := Lib.hid (b6.upd u7 (fun f => f))
     have HK := Lib.hid b7
     have hs7 := hu7.size
     clear u6 u7 b6 b7 hu7 HW6 HW7 HS5
     have CO := Lib.hid (rOk_c HS.out.rd)
     obtain ⟨z, Hz⟩ := nm (y'.why == 0)
     rw [Hz.out] at CO
     go_cut [] (fun wx => ∃ (y2 : St), Hid (PaS w wx w2.heap.size (w2.heap.size + 1) A c LT y2 OA oc Q) ∧ Hid (Good T y2) ∧ Hid (∀ k, y2.own w2.heap.size k → y'.own w2.heap.size k) ∧ Hid (Upd (· = w2.heap.size) W7 wx) ∧ Hid (LpR T fin ax n R y2 (Q ++ [rl]) (fu - 1)))
     case first =>
      cases z with
      | false =>
       have H0 : y'.why ≠ 0 := by have := Hz.out; exact fun q => by rw [q] at this; cases this
       have HL : Hid (LpR T fin ax n R y' (Q ++ [rl]) (fu - 1)) := ⟨fun q => absurd q H0, HRD.out.2.1⟩
       clear H0
       go_wp2_with fail
       refine CO.out.mono ?_
       rintro e w8 ⟨rfl, rfl⟩
       clear CO
       go_wp2_with fail
       go_meet
       case rel => exact ⟨y', HS, HG', fun _ q => q, Upd.refl, HL⟩
      | true =>
       have H0 : Hid (y'.why = 0) := by have := Hz.out; exact beq_iff_eq.1 this
       have HR2 := Lib.hid (HRD.out.2.2 H0.out)
       have v1 := HK.out.cell 1
       cases b with
       | false =>
        have HRR := Lib.hid (HR2.out.2.1 rfl)
        have CF := Lib.hid (rFail_c HS.out.rd 3 tp)
        go_wp2_with fail
        refine CO.out.mono ?_
        rintro e w8 ⟨rfl, rfl⟩
        clear CO
        have HU : Hid (Upd (· = w2.heap.size) w8 w8) := Upd.refl
        go_wp2_with fail
        refine CF.out.mono ?_
        rintro e w9 ⟨rfl, hr9, hu9⟩
        have HS9 := Lib.hid (HS.out.call hr9 (fun k q => .inl ((fail_own _ _ _ _ _).1 q)) (hu9.mono (fun _ _ e => .inl e)))
        have HU9 := Lib.hid (HU.out.trans hu9 (fun _ _ q => q))
        clear hr9 hu9 CF
        go_wp2_with fail
        go_meet
        case rel => exact ⟨_, HS9, Good.fail HG'.out.1 (by decide), fun k q => (fail_own _ _ _ _ _).1 q, HU9, RndR.err H0.out (by decide) HRR.out⟩
       | true =>
        have HRT := Lib.hid (HR2.out.2.2 rfl)
        have CV := Lib.hid (rlValid_c rl a _ W7 HRK.out HRT.out.1)
        unfold rlv rlCells at CV
        have hbx := HX.out
        unfold rlCells at hbx
        have k0 := hbx.cell 0
        have k1 := hbx.cell 1
        have k2 := hbx.cell 2
        have k3 := hbx.cell 3
        have k4 := hbx.cell 4
        have k5 := hbx.cell 5
        have k6 := hbx.cell 6
        have k7 := hbx.cell 7
        have k8 := hbx.cell 8
        have k9 := hbx.cell 9
        have k10 := hbx.cell 10
        have k11 := hbx.cell 11
        have k12 := hbx.cell 12
        have k13 := hbx.cell 13
        obtain ⟨v, Hv⟩ := nm (implF rl)
        rw [Hv.out] at CV
        clear hbx
        go_wp2_with fail
        refine CO.out.mono ?_
        rintro e w8 ⟨rfl, rfl⟩
        clear CO
        go_wp2_with fail
        refine CV.out.mono ?_
        rintro e w9 ⟨rfl, hu9⟩
        have HS := Lib.hid (HS.out.non hu9)
        have HU : Hid (Upd (· = w2.heap.size) w8 w9) := hu9.mono (fun _ _ f => f.elim)
        have v1 := cell_upd v1 hu9 (fun f => f)
        have k0 := cell_upd k0 hu9 (fun f => f)
        clear CV hu9 k1 k2 k3 k4 k5 k6 k7 k8 k9 k10 k11 k12 k13
        cases v with
        | false =>
         have HRR := Lib.hid (HRT.out.2.1 Hv.out)
         have CF := Lib.hid (rFail_c HS.out.rd 1 tp)
         clear k0
         go_wp2_with fail
         refine CF.out.mono ?_
         rintro e w9 ⟨rfl, hr9, hu9⟩
         have HS9 := Lib.hid (HS.out.call hr9 (fun k q => .inl ((fail_own _ _ _ _ _).1 q)) (hu9.mono (fun _ _ e => .inl e)))
         have HU9 := Lib.hid (HU.out.trans hu9 (fun _ _ q => q))
         clear hr9 hu9 CF
         go_wp2_with fail
         go_meet
         case rel => exact ⟨_, HS9, Good.fail HG'.out.1 (by decide), fun k q => (fail_own _ _ _ _ _).1 q, HU9, RndR.err H0.out (by decide) HRR.out⟩
        | true =>
         have HRV := Lib.hid (HRT.out.2.2 Hv.out)
         have hlook := HS.out.map.look1 Try.underlying58 Try.underlying9 (zeroBoolP _) rl.name
         rw [nmV_get] at hlook
         obtain ⟨d, Hd⟩ := nm (Q.any (fun q => decide (q.name = rl.name)))
         rw [Hd.out] at hlook
         cases d with
         | true =>
          have HRR := Lib.hid (HRV.out.1 Hd.out)
          have CF := Lib.hid (rFail_c HS.out.rd 4 tp)
          go_wp2_with fail
          refine CF.out.mono ?_
          rintro e w9 ⟨rfl, hr9, hu9⟩
          have HS9 := Lib.hid (HS.out.call hr9 (fun k q => .inl ((fail_own _ _ _ _ _).1 q)) (hu9.mono (fun _ _ e => .inl e)))
          have HU9 := Lib.hid (HU.out.trans hu9 (fun _ _ q => q))
          clear hr9 hu9 CF
          go_wp2_with fail
          go_meet
          case rel => exact ⟨_, HS9, Good.fail HG'.out.1 (by decide), fun k q => (fail_own _ _ _ _ _).1 q, HU9, RndR.err H0.out (by decide) HRR.out⟩
         | false =>
          have HRW := Lib.hid (HRV.out.2 Hd.out)
          by_cases hq : Q.length = 160
          ·
           have HRR := Lib.hid (HRW.out.1 hq)
           have tq : ((Q.length : Int) == 160) = true := by rw [hq]; rfl
           have CF := Lib.hid (rFail_c HS.out.rd 6 tp)
           clear hq
           go_wp2_with fail
           refine CF.out.mono ?_
           rintro e w9 ⟨rfl, hr9, hu9⟩
           have HS9 := Lib.hid (HS.out.call hr9 (fun k q => .inl ((fail_own _ _ _ _ _).1 q)) (hu9.mono (fun _ _ e => .inl e)))
           have HU9 := Lib.hid (HU.out.trans hu9 (fun _ _ q => q))
           clear hr9 hu9 CF
           go_wp2_with fail
           go_meet
           case rel => exact ⟨_, HS9, Good.fail HG'.out.1 (by decide), fun k q => (fail_own _ _ _ _ _).1 q, HU9, RndR.err H0.out (by decide) HRR.out⟩
          ·
           have HLP := Lib.hid (HRW.out.2 hq)
           have tq : ((Q.length : Int) == 160) = false := by simpa using fun q => hq (by omega)
           clear hq
           go_wp2_with fail
           go_meet
           case rel => exact ⟨y', HS, HG', fun _ q => q, HU, HLP⟩
     case rest =>
      clear HS HG' CO Hz
      obtain ⟨y2, HS, HG, HO, HU, HL⟩ := hcut
      have hbx := HX.out.upd HU.out (by omega)
      have HXX := Lib.hid hbx
      have HRK : Hid (RlK wc (fun k => m ≤ k ∧ ¬ y2.own w2.heap.size k) rl a) := (HRK.out.upd HU.out (fun k _ q e => by have := q.1; omega)).mono (fun k _ q => ⟨q.1, fun r => q.2 (HO.out k r)⟩)
      have hlw := HU.out.size
      obtain ⟨w10, hst, hsm, hus⟩ := HS.out.map.store Try.underlying58 Try.underlying9 rl.name (.bool true)
      rw [nmV_snoc] at hsm
      unfold rlCells at hbx
      have k0 := hbx.cell 0
      obtain ⟨_, cs, hown, hcells⟩ := id HS.out.out
      have HCS := Lib.hid hcells
      have hown2 := hown.upd hus (fun k q e => by have := HS.out.oat k q; omega)
      have hb2 := hbx.upd hus (by omega)
      have z0 := hb2.cell 0
      have z1 := hb2.cell 1
      have z2 := hb2.cell 2
      have z3 := hb2.cell 3
      have z4 := hb2.cell 4
      have z5 := hb2.cell 5
      have z6 := hb2.cell 6
      have z7 := hb2.cell 7
      have z8 := hb2.cell 8
      have z9 := hb2.cell 9
      have z10 := hb2.cell 10
      have z11 := hb2.cell 11
      have z12 := hb2.cell 12
      have z13 := hb2.cell 13
      have HM2 := Lib.hid hsm
      have HU2 := Lib.hid hus
      clear hcells hbx hsm hus hb2 hown
      go_wp2_with (at_builtin; refine wpList_app rfl rfl T_rules rfl (hown2.alloc _) rfl (Sl.new _ _ _) rfl (by simp [Value.oneCell']) (by simp only [maxLen]; omega) (by omega) ?_; intro A4 c4 w4 ho4 hu4 hat4)
      have HN : Hid (PaS w w4 w2.heap.size (w2.heap.size + 1) A c LT y2 A4 c4 (Q ++ [rl])) := HS.out.app HRK.out hmw HOA.out HCS.out HM2.out HU2.out (Upd.refl.alloc _) ho4 hu4 hat4
      have hfu := HRD.out.1
      clear z0 z1 z2 z3 z4 z5 z6 z7 z8 z9 z10 z11 z12 z13 ho4 hu4 hat4 hst k0 HCS hown2
      go_roundg (fu - 1)
      case measure => rw [Hfu.out]; omega
      case rel => exact ⟨fu - 1, y2, A4, c4, Q ++ [rl], rfl, by rw [List.length_append]; rfl, HN, HG, HL, by rw [List.length_append, List.length_singleton]; omega⟩
end Go.Proofs.Ytblkgjdhaibhgaa
namespace Go.Proofs.Ytblkgjdhaibhgaa
open Go.RowKit
def axTx (x : Bs × Bs) : Bs := [114, 117, 108, 101, 32] ++ x.1 ++ [58, 32] ++ x.2 ++ [59]
theorem axiomF_eq (s : Bs) : axiomF s = match axL.find? (fun x => decide (x.1 = s)) with
  | none => none
  | some x => match parseG (fun _ => none) (axTx x) with
   | .ok [r] => some r
   | _ => none := by
 unfold axiomF axText
 cases h : axL.find? (fun x => decide (x.1 = s)) with
 | none => rfl
 | some x =>
  have := List.find?_some h
  simp only [decide_eq_true_eq] at this
  subst this
  rfl
def szB (r : Rl) : Bool := decide (r.l.size ≤ 1000000000000) && decide (r.r.size ≤ 1000000000000) && decide (r.conds.length ≤ 1000000000000) && decide (r.name.size ≤ 1000000000000000)
theorem ax_all : axL.all (fun x => match parseG (fun _ => none) (axTx x) with | .ok [r] => szB r | _ => false) = true := by decide +kernel
theorem ax_tok : axL.all (fun x => (goodT (toksF (axTx x))).all (fun t => !decide (t.1 = [97, 120, 105, 111, 109]))) = true := by decide +kernel
theorem ax_parse {x : Bs × Bs} (h : x ∈ axL) : ∃ r, parseG (fun _ => none) (axTx x) = .ok [r] ∧ RlSz r := by
 have h1 := List.all_eq_true.1 ax_all x h
 split at h1
 ·
  rename_i r he
  simp only [szB, Bool.and_eq_true, decide_eq_true_eq] at h1
  exact ⟨r, he, h1.1.1.1, h1.1.1.2, h1.1.2, h1.2⟩
 ·
  cases h1
theorem ax_none {x : Bs × Bs} (h : x ∈ axL) : ¬ ∃ i, tkF (goodT (toksF (axTx x))) i = some [97, 120, 105, 111, 109] := by
 rintro ⟨i, hi⟩
 have h1 := List.all_eq_true.1 ax_tok x h
 have hl := tkF_lt hi
 unfold tkF at hi
 rw [List.getElem?_eq_getElem hl] at hi
 have h2 := List.all_eq_true.1 h1 _ (List.getElem_mem hl)
 simp only [Option.map_some, Option.some.injEq] at hi
 rw [hi] at h2
 exact absurd h2 (by decide)
theorem ax_len : axL.all (fun x => decide (x.1.length ≤ 1000) && decide (x.2.length ≤ 1000)) = true := by decide +kernel
theorem ax_size {x : Bs × Bs} (h : x ∈ axL) : (kstr x.1).size ≤ 1000 ∧ (kstr x.2).size ≤ 1000 := by
 have h1 := List.all_eq_true.1 ax_len x h
 simp only [Bool.and_eq_true, decide_eq_true_eq] at h1
 rw [← kx_len, ← kx_len, kx_kstr, kx_kstr]
 exact h1
theorem axiomF_sz (s : Bs) (r : Rl) (h : axiomF s = some r) : RlSz r := by
 rw [axiomF_eq] at h
 split at h
 ·
  cases h
 ·
  rename_i x hx
  obtain ⟨r2, h1, h2⟩ := ax_parse (List.mem_of_find?_eq_some hx)
  rw [h1] at h
  injection h with h
  subst h
  exact h2
theorem find_take {x : Bs × Bs} {s : Bs} {l : List (Bs × Bs)} (hn : ∀ y ∈ l, ¬ y.1 = s) (hx : x.1 = s) (r : List (Bs × Bs)) : (l ++ x :: r).find? (fun x => decide (x.1 = s)) = some x := by
 rw [List.find?_append]
 have : l.find? (fun x => decide (x.1 = s)) = none := by
  rw [List.find?_eq_none]
  intro y hy
  simpa using hn y hy
 rw [this, List.find?_cons_of_pos (by simpa using hx)]
 rfl
def axCs : List Value := axL.flatMap fun x => [.string (kstr x.1), .string (kstr x.2)]
theorem axCs_get {i : Nat} (h : i < axL.length) : axCs[i * 2]? = some (.string (kstr axL[i].1)) ∧ axCs[i * 2 + 1]? = some (.string (kstr axL[i].2)) := by
 have : ∀ (l : List (Bs × Bs)) (i : Nat) (h : i < l.length), (l.flatMap fun x => [Value.string (kstr x.1), Value.string (kstr x.2)])[i * 2]? = some (.string (kstr l[i].1)) ∧ (l.flatMap fun x => [Value.string (kstr x.1), Value.string (kstr x.2)])[i * 2 + 1]? = some (.string (kstr l[i].2)) := by
  intro l
  induction l with
  | nil => intro i h; simp at h
  | cons x l ih =>
   intro i h
   cases i with
   | zero => exact ⟨rfl, rfl⟩
   | succ i =>
    have := ih i (by simpa using h)
    rw [show (i + 1) * 2 = i * 2 + 1 + 1 by omega]
    exact this
 exact this axL i h
end Go.Proofs.Ytblkgjdhaibhgaa
namespace Go.Proofs.Ytblkgjdhaibhgaa
open Go.RowKit
set_option maxRecDepth 100000 in
theorem raxioms_c (w : World) : Calls Try.prog 23 #[] w fun e w' => e = .returned (.slice (some ⟨w.heap.size, 0, none⟩) 22 22) ∧ Blk w' w.heap.size 49 axCs.toArray ∧ Upd Non w w' := by
 go_enter Try.func23, Try.ntmps23
 go_wp2_with fail
 go_ret
 exact ⟨rfl, Blk.new _ _ _, Upd.refl.alloc _⟩
end Go.Proofs.Ytblkgjdhaibhgaa
namespace Go.Proofs.Ytblkgjdhaibhgaa
open Go.RowKit
set_option maxRecDepth 100000 in
set_option maxHeartbeats 1000000 in
theorem rAxiom_c (s : Bs) (w : World) : Calls Try.prog 10 #[.string (kstr s)] w (AxP axiomF s w) := by
 have HX : Hid (axiomF s = match axL.find? (fun x => decide (x.1 = s)) with
  | none => none
  | some x => match parseG (fun _ => none) (axTx x) with
   | .ok [r] => some r
   | _ => none) := axiomF_eq s
 obtain ⟨W1, HW1⟩ := nm (w.alloc (.cells #[.string ⟨#[]⟩, .int .i64 0, .int .i64 0, .int .i64 0, .int .i64 0, .slice none 0 0, .int .i64 0, .int .i64 0, .int .i64 0, .int .i64 0, .slice none 0 0, .slice none 0 0, .int .i64 0, .int .i64 0] 33))
 have e1 := HW1.out
 have u1 : Upd Non w W1 := by rw [← e1]; exact Upd.refl.alloc _
 have b1 : Blk W1 w.heap.size 33 z14 := by rw [← e1]; exact Blk.new _ _ _
 have s1 : W1.heap.size = w.heap.size + 1 := by rw [← e1]; simp
 have CA := Lib.hid (raxioms_c W1)
 rw [s1] at CA
 obtain ⟨qs, Hqs⟩ := nm (kstr s)
 rw [Hqs.out]
 have HB1 := Lib.hid b1
 have HU1 := Lib.hid u1
 clear u1 b1 s1
 go_enter Try.func10, Try.ntmps10
 go_wp2_with fail
 refine CA.out.mono ?_
 rintro e w2 ⟨rfl, hbt, hu2⟩
 have HT := Lib.hid hbt
 have HB2 := Lib.hid (HB1.out.upd hu2 (fun f => f))
 have HU2 := Lib.hid (HU1.out.then_non hu2)
 clear hbt hu2 CA HB1 HU1 e1
 go_wp2_with fail
 go_loopg [5, 6, 7, 10] 22 (fun g _ _ _ iv wr => ∃ j : Nat, Hid (g = 22 - j) ∧ j ≤ 22 ∧ iv = .int .i64 j ∧ Hid (Upd Non w2 wr) ∧ Hid (∀ x ∈ axL.take j, ¬ x.1 = s))
 case atStart => exact ⟨0, rfl, Nat.zero_le _, rfl, Upd.refl, fun x hx => by simp at hx⟩
 case round =>
  obtain ⟨j, Hg, hj, rfl, HU, HN⟩ := hrel
  have hb := HT.out.upd HU.out (fun f => f)
  have hr := HB2.out.upd HU.out (fun f => f)
  have HR := Lib.hid hr
  have hUw := HU2.out.then_non HU.out
  have HUW := Lib.hid hUw
  clear hUw
  by_cases hlt : j < 22
  ·
   have hal : j < axL.length := hlt
   obtain ⟨k0, k1⟩ := axCs_get hal
   have c0 : wr.cell? ⟨w.heap.size + 1, j * 2, none⟩ = some (.string (kstr axL[j].1)) := by rw [hb.cell]; simpa using k0
   have c1 : wr.cell? ⟨w.heap.size + 1, j * 2 + 1, none⟩ = some (.string (kstr axL[j].2)) := by rw [hb.cell]; simpa using k1
   have HM : Hid (axL[j] ∈ axL) := List.getElem_mem hal
   have HDR : Hid (axL = axL.take j ++ axL[j] :: axL.drop (j + 1)) := by
    show axL = _
    rw [← List.drop_eq_getElem_cons hal, List.take_append_drop]
   have HTK : Hid (axL.take (j + 1) = axL.take j ++ [axL[j]]) := take_snoc' hal
   generalize axL[j] = xx at *
   obtain ⟨D, HD⟩ := nm (decide (xx.1 = s))
   have hD : ((kstr xx.1).toList == qs.toList) = D := by rw [← Hqs.out, str_beq, HD.out]
   obtain ⟨qa, Hqa⟩ := nm (kstr xx.1)
   obtain ⟨qb, Hqb⟩ := nm (kstr xx.2)
   rw [Hqa.out] at c0 hD
   rw [Hqb.out] at c1
   clear k0 k1 hb hr
   cases D with
   | false =>
    go_wp2_with fail
    go_roundg (22 - (j + 1))
    case measure => rw [Hg.out]; omega
    case rel =>
     refine ⟨j + 1, rfl, by omega, by go_num, HU.out.then_non (Upd.refl.alloc _), fun y hy => ?_⟩
     rw [HTK.out] at hy
     rcases List.mem_append.1 hy with hy | hy
     ·
      exact HN.out y hy
     ·
      rw [List.mem_singleton] at hy; subst hy; exact of_decide_eq_false HD.out
   | true =>
    obtain ⟨rl, hpr, hsz⟩ := ax_parse HM.out
    obtain ⟨la, lb⟩ := ax_size HM.out
    rw [Hqa.out] at la
    rw [Hqb.out] at lb
    have hkx : kx (((({ data := #[114, 117, 108, 101, 32] } : ByteArray) ++ qa) ++ { data := #[58, 32] }) ++ qb ++ { data := #[59] }) = axTx xx := by
     rw [← Hqa.out, ← Hqb.out]
     simp [kx, kstr, axTx]
    obtain ⟨W3, HW3⟩ := nm (wr.alloc (.cells #[.string qa, .string qb] 49))
    have CP := Lib.hid (rParse_c (fun _ => none) (fun _ _ q => by cases q) (((({ data := #[114, 117, 108, 101, 32] } : ByteArray) ++ qa) ++ { data := #[58, 32] }) ++ qb ++ { data := #[59] }) (fun q => by rw [hkx] at q; exact absurd q (ax_none HM.out)) W3)
    rw [hkx, hpr] at CP
    have e3 := HW3.out
    have HPR := Lib.hid hpr
    have u3 : Upd Non wr W3 := by rw [← e3]; exact Upd.refl.alloc _
    have HU3 := Lib.hid (HUW.out.then_non u3)
    have HR3 := Lib.hid (HR.out.upd u3 (fun f => f))
    have b3 : Blk W3 wr.heap.size 49 #[.string qa, .string qb] := by rw [← e3]; exact Blk.new _ _ _
    have z0 := b3.cell 0
    have z1 := b3.cell 1
    clear hkx hpr u3 hsz b3
    go_wp2_with fail
    refine CP.out.mono ?_
    rintro e w4 ⟨hu4, h⟩
    rcases h with ⟨er, h, _⟩ | ⟨Q, A, c, h, rfl, hv, hle⟩
    ·
     cases h
    injection h with h
    subst h
    obtain ⟨b, o, a, rfl, _, hb4, hat, hrk⟩ := hv.at_ (i := 0) (by simp)
    unfold RlAt at hat
    rw [List.getElem_cons_zero, Nat.zero_mul, Nat.add_zero] at hat
    rw [List.getElem_cons_zero] at hrk
    obtain ⟨x0, x1, x2, x3, x4, x5, x6, x7, x8, x9, x10, x11, x12, x13⟩ := hat
    have b0 := HR3.out.upd hu4 (fun f => f)
    have hbl := b0.lt
    unfold z14 at b0
    have z0 := b0.cell 0
    have z1 := b0.cell 1
    have z2 := b0.cell 2
    have z3 := b0.cell 3
    have z4 := b0.cell 4
    have z5 := b0.cell 5
    have z6 := b0.cell 6
    have z7 := b0.cell 7
    have z8 := b0.cell 8
    have z9 := b0.cell 9
    have z10 := b0.cell 10
    have z11 := b0.cell 11
    have z12 := b0.cell 12
    have z13 := b0.cell 13
    have zf := b0.frozen
    have HRK := Lib.hid hrk
    have HU4 := Lib.hid (HU3.out.then_non hu4)
    have hle3 := HU3.out.size
    have hlw3 := HR3.out.lt
    clear hv hle hrk hu4 CP e3
    go_wp2_with fail
    rw [set14_eq]
    obtain ⟨W8, HW8⟩ := nm (set14 w4 w.heap.size (.string rl.name) (.int .i64 rl.l.v) (.int .i64 rl.l.op) (.int .i64 rl.l.imm) (.int .i64 rl.l.iv) (.slice a.la rl.l.kids.length a.lc) (.int .i64 rl.r.v) (.int .i64 rl.r.op) (.int .i64 rl.r.imm) (.int .i64 rl.r.iv) (.slice a.ra rl.r.kids.length a.rc) (.slice a.ca rl.conds.length a.cc) (.int .i64 rl.vars) (.int .i64 rl.imms))
    rw [HW8.out]
    have us : Upd (· = w.heap.size) w4 W8 := by rw [← HW8.out]; exact set14_upd _ _ _ _ _ _ _ _ _ _ _ _ _ _ _ _
    have b5 : Blk W8 w.heap.size 33 (rlCells rl a) := by rw [← HW8.out]; exact set14_blk b0 _ _ _ _ _ _ _ _ _ _ _ _ _ _
    have ua : Upd Non W8 (W8.alloc (.cells #[.int .i64 0, .int .i64 0] 25)) := Upd.refl.alloc _
    refine bodyPost_ret (results_cell_row_tmp rfl _ _ w.heap.size 33 _ (0, 0) _ rfl (b5.upd ua (fun f => f)) Try.underlying33 rfl (by kernel_rfl)) rfl ?_
    refine ⟨rl, a, true, rfl, ?_, (HU4.out.trans us (fun k hk e => by omega)).then_non ua, fun _ => ?_, fun q => (by cases q)⟩
    ·
     exact ((HRK.out.upd us (fun k _ q e => by have := q; omega)).upd ua (fun _ _ _ f => f)).mono (fun k _ q => Nat.le_trans hle3 q)
    ·
     rw [HX.out, HDR.out, find_take HN.out (of_decide_eq_true HD.out)]
     dsimp only
     rw [HPR.out]
  ·
   obtain rfl : j = 22 := by omega
   clear hb
   unfold z14 at hr
   have z0 := hr.cell 0
   have z1 := hr.cell 1
   have z2 := hr.cell 2
   have z3 := hr.cell 3
   have z4 := hr.cell 4
   have z5 := hr.cell 5
   have z6 := hr.cell 6
   have z7 := hr.cell 7
   have z8 := hr.cell 8
   have z9 := hr.cell 9
   have z10 := hr.cell 10
   have z11 := hr.cell 11
   have z12 := hr.cell 12
   have z13 := hr.cell 13
   have zf := hr.frozen
   go_wp2_with fail
   rw [set14_eq]
   have us := set14_upd wr w.heap.size (.string ⟨#[]⟩) (.int .i64 0) (.int .i64 0) (.int .i64 0) (.int .i64 0) (.slice none 0 0) (.int .i64 0) (.int .i64 0) (.int .i64 0) (.int .i64 0) (.slice none 0 0) (.slice none 0 0) (.int .i64 0) (.int .i64 0)
   have b5 := set14_blk HR.out (.string ⟨#[]⟩) (.int .i64 0) (.int .i64 0) (.int .i64 0) (.int .i64 0) (.slice none 0 0) (.int .i64 0) (.int .i64 0) (.int .i64 0) (.int .i64 0) (.slice none 0 0) (.slice none 0 0) (.int .i64 0) (.int .i64 0)
   refine bodyPost_ret (results_cell_row_tmp rfl _ _ w.heap.size 33 _ (0, 0) _ rfl b5 Try.underlying33 rfl (by kernel_rfl)) rfl ?_
   refine ⟨⟨⟨#[]⟩, .mk 0 0 0 0 [], .mk 0 0 0 0 [], [], 0, 0⟩, ⟨none, 0, none, 0, none, 0⟩, false, rfl, ⟨PtK.leaf, PtK.leaf, CondsV.nil, Nat.le_refl _⟩, HUW.out.trans us (fun k hk e => by omega), fun q => (by cases q), fun _ => ?_⟩
   rw [HX.out, List.find?_eq_none.2]
   intro y hy
   simpa using HN.out y (by rw [List.take_of_length_le (show axL.length ≤ 22 from Nat.le_refl _)]; exact hy)
end Go.Proofs.Ytblkgjdhaibhgaa
namespace Go.Proofs.Ytblkgjdhaibhgaa
open Go.RowKit
mutual
def ptE : Pt → Pt → Bool
 | .mk v op imm iv ks, q => decide (v = q.v ∧ op = q.op ∧ imm = q.imm ∧ iv = q.iv ∧ ks.length = q.kids.length) && ptEL ks q.kids
def ptEL : List Pt → List Pt → Bool
 | [], _ => true
 | k :: ks, ls => match ls with
  | [] => true
  | l :: ls => ptE k l && ptEL ks ls
end
theorem ptE_eq (p q : Pt) : ptE p q = (decide (p.v = q.v ∧ p.op = q.op ∧ p.imm = q.imm ∧ p.iv = q.iv ∧ p.kids.length = q.kids.length) && ptEL p.kids q.kids) := by
 cases p
 rw [ptE]
 rfl
theorem ptEL_of : ∀ {ks ls : List Pt}, (∀ i (h : i < ks.length) (h2 : i < ls.length), ptE ks[i] ls[i] = true) → ptEL ks ls = true
 | [], _, _ => by simp [ptEL]
 | k :: ks, [], _ => by simp [ptEL]
 | k :: ks, l :: ls, h => by
  simp only [ptEL, Bool.and_eq_true]
  exact ⟨h 0 (Nat.zero_lt_succ _) (Nat.zero_lt_succ _), ptEL_of fun i h1 h2 => h (i + 1) (Nat.succ_lt_succ h1) (Nat.succ_lt_succ h2)⟩
theorem ptEL_no : ∀ {ks ls : List Pt} {i : Nat} (h1 : i < ks.length) (h2 : i < ls.length), ptE ks[i] ls[i] = false → ptEL ks ls = false
 | k :: ks, l :: ls, 0, _, _, h => by
  simp only [ptEL, Bool.and_eq_false_iff]
  exact .inl h
 | k :: ks, l :: ls, i + 1, h1, h2, h => by
  simp only [ptEL, Bool.and_eq_false_iff]
  exact .inr (ptEL_no (Nat.lt_of_succ_lt_succ h1) (Nat.lt_of_succ_lt_succ h2) h)
theorem ptE_refl (p : Pt) : ptE p p = true := by
 induction p using Pt.ind with
 | h p ih =>
  rw [ptE_eq, Bool.and_eq_true]
  exact ⟨by simp, ptEL_of fun i h _ => ih _ (List.getElem_mem h)⟩
def rlE (r s : Rl) : Bool := decide (r.vars = s.vars ∧ r.imms = s.imms ∧ r.conds.length = s.conds.length) && ptE r.l s.l && ptE r.r s.r && decide (r.conds = s.conds)
theorem rlE_refl (r : Rl) : rlE r r = true := by simp [rlE, ptE_refl]
def rlsE : List Rl → List Rl → Bool
 | [], [] => true
 | r :: rs, s :: ss => decide (r.name = s.name) && rlE r s && rlsE rs ss
 | _, _ => false
theorem rlsE_refl : ∀ l : List Rl, rlsE l l = true
 | [] => rfl
 | r :: l => by simp [rlsE, rlE_refl, rlsE_refl l]
theorem rlsE_len : ∀ {a b : List Rl}, rlsE a b = true → a.length = b.length
 | [], [], _ => rfl
 | r :: rs, s :: ss, h => by
  simp only [rlsE, Bool.and_eq_true] at h
  simp [rlsE_len h.2]
theorem rlsE_of : ∀ {a b : List Rl}, a.length = b.length → (∀ i (h : i < a.length) (h2 : i < b.length), a[i].name = b[i].name ∧ rlE a[i] b[i] = true) → rlsE a b = true
 | [], [], _, _ => rfl
 | [], _ :: _, h, _ => by simp at h
 | _ :: _, [], h, _ => by simp at h
 | r :: rs, s :: ss, h, k => by
  simp only [rlsE, Bool.and_eq_true, decide_eq_true_eq]
  exact ⟨k 0 (Nat.zero_lt_succ _) (Nat.zero_lt_succ _), rlsE_of (by simpa using h) fun i h1 h2 => k (i + 1) (Nat.succ_lt_succ h1) (Nat.succ_lt_succ h2)⟩
theorem rlsE_no : ∀ {a b : List Rl} {i : Nat} (h1 : i < a.length) (h2 : i < b.length), (¬ a[i].name = b[i].name ∨ rlE a[i] b[i] = false) → rlsE a b = false
 | r :: rs, s :: ss, 0, _, _, h => by
  rcases h with h | h
  ·
   have h : ¬ r.name = s.name := h
   simp [rlsE, h]
  ·
   have h : rlE r s = false := h
   simp [rlsE, h]
 | r :: rs, s :: ss, i + 1, h1, h2, h => by
  have := rlsE_no (a := rs) (b := ss) (i := i) (Nat.lt_of_succ_lt_succ h1) (Nat.lt_of_succ_lt_succ h2) h
  simp [rlsE, this]
theorem CondsV.take {w : World} {F : Nat → Prop} {A : Option Addr} {cs : List Cd} (h : CondsV w F A cs) {i : Nat} (hi : i < cs.length) : ∃ b o, A = some ⟨b, o, none⟩ ∧ b < w.heap.size ∧ w.cell? ⟨b, o + i * 4, none⟩ = some (.int .i64 cs[i].kind) ∧ w.cell? ⟨b, o + i * 4 + 1, none⟩ = some (.int .i64 cs[i].a) ∧ w.cell? ⟨b, o + i * 4 + 2, none⟩ = some (.int .i64 cs[i].b) ∧ w.cell? ⟨b, o + i * 4 + 3, none⟩ = some (.int .i64 cs[i].n) := by
 obtain ⟨b, o, h1, _, h2, h3⟩ := h.at_ hi
 exact ⟨b, o, h1, h2, h3⟩
end Go.Proofs.Ytblkgjdhaibhgaa
namespace Go.Proofs.Ytblkgjdhaibhgaa
open Go.RowKit
def hdF (r : Rl) : Bs := [114, 117, 108, 101, 32] ++ kx r.name ++ [58, 32] ++ fmtF r.l ++ [32, 61, 62, 32] ++ fmtF r.r
theorem fmtR_hd (r : Rl) : fmtR r = hdF r ++ fmtCs r.conds true ++ [59, 10] := rfl
theorem hd_eq (r : Rl) : kx ((((({ data := #[114, 117, 108, 101, 32] } : ByteArray) ++ r.name) ++ { data := #[58, 32] }) ++ kstr (fmtF r.l)) ++ { data := #[32, 61, 62, 32] } ++ kstr (fmtF r.r)) = hdF r := by
 simp [kx, kstr, hdF]
theorem hdF_len {r : Rl} (h : FmR r) : (hdF r).length ≤ 1600 := by
 have e1 := fmtF_len _ h.l
 have e2 := fmtF_len _ h.r
 have e5 := h.ls
 have e6 := h.rs
 have e7 : (kx r.name).length ≤ 16 := by rw [kx_len]; exact h.n
 unfold hdF
 simp only [List.length_append, List.length_cons, List.length_nil]
 omega
set_option maxRecDepth 100000 in
set_option maxHeartbeats 2000000 in
theorem rPrint_c (w : World) (F : Nat → Prop) (A : Option Addr) (c : Nat) (L : List Rl) (hv : RlsV w F A L) (hz : ∀ r ∈ L, RlSz r) (hi : ∀ r ∈ L, RlI r) (hn : L.length ≤ 1000000) :
  Calls Try.prog 8 #[.slice A L.length c] w fun e w' => e = .returned (.string (kstr (printF L))) ∧ Upd Non w w' := by
 have HV := Lib.hid hv
 have HZ := Lib.hid hz
 have HI := Lib.hid hi
 obtain ⟨res, Hres⟩ := nm (kstr (printF L))
 rw [Hres.out]
 obtain ⟨n, Hn⟩ := nm L.length
 rw [Hn.out] at hn ⊢
 clear hv hz hi
 go_enter Try.func8, Try.ntmps8
 go_wp2_with fail
 go_loopg [3, 5, 6, 7, 8, 11] n (fun g v _ _ _ _ iv wr => ∃ (k : Nat) (BA : Option Addr) (bc : Nat) (bs : Bs), Hid (g = n - k) ∧ k ≤ n ∧ iv = .int .i64 k ∧ v = .slice BA bs.length bc ∧ Hid (Own wr 5 1 BA bs.length bc (u8s bs)) ∧ Hid (∀ q, At BA q → w.heap.size ≤ q) ∧ Hid (bs = fmtRs (L.take k)) ∧ bs.length ≤ 2000 * k ∧ Hid (∀ r ∈ L.take k, implF r = true) ∧ Hid (Upd Non w wr))
 case atStart => exact ⟨0, none, 0, [], rfl, Nat.zero_le _, rfl, rfl, Own.none_, fun _ q => (At.none_ q).elim, rfl, by simp, fun r hr => by simp at hr, Upd.refl⟩
 case round =>
  obtain ⟨k, BA, bc, bs, Hg, hk, rfl, rfl, HO, HA, HB, hbl, HI2, HU⟩ := hrel
  by_cases hlt : k < n
  ·
   have hkl : k < L.length := by rw [Hn.out]; exact hlt
   obtain ⟨b, o, a, rfl, _, hbw0, hat0, hrk0⟩ := HV.out.at_ hkl
   have hbw : b < wr.heap.size := Nat.lt_of_lt_of_le hbw0 HU.out.size
   have hat := hat0.upd HU.out (fun f => f)
   have hrk := hrk0.upd HU.out (fun _ _ _ f => f)
   have HRW := Lib.hid hrk0
   clear hat0 hrk0 hbw0
   unfold RlAt at hat
   have HRZ := Lib.hid (HZ.out _ (List.getElem_mem hkl))
   have HRI := Lib.hid (HI.out _ (List.getElem_mem hkl))
   have HTK : Hid (L.take (k + 1) = L.take k ++ [L[k]]) := take_snoc' hkl
   have HME : Hid (L[k] ∈ L) := List.getElem_mem hkl
   generalize L[k] = r at *
   obtain ⟨x0, x1, x2, x3, x4, x5, x6, x7, x8, x9, x10, x11, x12, x13⟩ := hat
   have CV := Lib.hid (rlValid_c r a F _ (hrk.upd (Upd.refl.alloc (S := Non) (.cells (rlCells r a) 33)) (fun _ _ _ f => f)) HRZ.out)
   have hb3 := Blk.new wr 33 (rlCells r a)
   have HB3 := Lib.hid hb3
   have HRK := Lib.hid hrk
   unfold rlv rlCells at CV
   obtain ⟨v, Hv⟩ := nm (implF r)
   rw [Hv.out] at CV
   clear hb3 hrk
   go_wp2_with fail
   refine CV.out.mono ?_
   rintro e w4 ⟨rfl, hu4⟩
   clear CV x0 x1 x2 x3 x4 x5 x6 x7 x8 x9 x10 x11 x12 x13
   have HU4 := Lib.hid ((HU.out.alloc (.cells (rlCells r a) 33)).then_non hu4)
   have HB4 := Lib.hid (HB3.out.upd hu4 (fun f => f))
   have u34 : Upd Non wr w4 := (Upd.refl.alloc (S := Non) (.cells (rlCells r a) 33)).then_non hu4
   have HO4 := Lib.hid (Own.upd HO.out u34 (fun _ _ f => f))
   have HRK4 := Lib.hid (HRK.out.upd u34 (fun _ _ _ f => f))
   clear HO HB3 HRK hu4 u34
   cases v with
   | false =>
    go_wp2_with fail
    go_ret
    refine ⟨?_, HU4.out⟩
    rw [← Hres.out, show printF L = [] from if_neg (fun q => by have := List.all_eq_true.1 q r HME.out; rw [Hv.out] at this; cases this)]
    rfl
   | true =>
    have HF := Lib.hid (impl_fm Hv.out HRI.out)
    have hnl : r.name.size ≤ 16 := HF.out.n
    have hlz : r.l.size ≤ 24 := HF.out.ls
    have hrz : r.r.size ≤ 24 := HF.out.rs
    have hl1 : (kstr (fmtF r.l)).size ≤ 720 := ksz (by have := fmtF_len _ HF.out.l; omega)
    have hl2 : (kstr (fmtF r.r)).size ≤ 720 := ksz (by have := fmtF_len _ HF.out.r; omega)
    have CL := Lib.hid (fun W (u : Upd Non w4 W) => rFormat_c r.l W F a.la a.lc (PtK.upd u (fun _ _ _ f => f) _ _ _ HRK4.out.l) HF.out.l (by omega))
    have CR := Lib.hid (fun W (u : Upd Non w4 W) => rFormat_c r.r W F a.ra a.rc (PtK.upd u (fun _ _ _ f => f) _ _ _ HRK4.out.r) HF.out.r (by omega))
    have HE := Lib.hid (hd_eq r)
    have hsz : (hdF r).length ≤ 1600 := hdF_len HF.out
    obtain ⟨f1, Hf1⟩ := nm (kstr (fmtF r.l))
    obtain ⟨f2, Hf2⟩ := nm (kstr (fmtF r.r))
    rw [Hf1.out] at CL HE hl1
    rw [Hf2.out] at CR HE hl2
    unfold pv at CL CR
    have HAO := HA
    go_upto_region 7 with fail
    go_cut [3] (fun v wx => ∃ (BB : Option Addr) (bb : Nat) (bs2 : Bs), v = .slice BB bs2.length bb ∧ Hid (Own wx 5 1 BB bs2.length bb (u8s bs2)) ∧ Hid (∀ q, At BB q → w.heap.size ≤ q) ∧ Hid (bs2 = bs ++ hdF r) ∧ Hid (Upd (At BA) w4 wx))
    case first =>
     obtain ⟨wD, HwD⟩ := nm w4.drew
     have uD : Upd Non w4 wD := by rw [← HwD.out]; exact Upd.refl.drew
     have hbD := HB4.out.upd uD (fun f => f)
     unfold rlCells at hbD
     have hq1 : ¬ (9223372036854775807 < 5 + r.name.size) := by omega
     have hq2 : ¬ (9223372036854775807 < 5 + r.name.size + 2) := by omega
     have hq3 : ¬ (9223372036854775807 < 5 + r.name.size + 2 + f1.size) := by omega
     have hq4 : ¬ (9223372036854775807 < 5 + r.name.size + 2 + f1.size + 4) := by omega
     have hq5 : ¬ (9223372036854775807 < 5 + r.name.size + 2 + f1.size + 4 + f2.size) := by omega
     refine wp_region_held_drew (S := fun w' => w'.cell? ⟨wr.heap.size, 0, none⟩ = some (.string r.name) ∧ w'.cell? ⟨wr.heap.size, 1, none⟩ = some (.int .i64 r.l.v) ∧ w'.cell? ⟨wr.heap.size, 2, none⟩ = some (.int .i64 r.l.op) ∧ w'.cell? ⟨wr.heap.size, 3, none⟩ = some (.int .i64 r.l.imm) ∧ w'.cell? ⟨wr.heap.size, 4, none⟩ = some (.int .i64 r.l.iv) ∧ w'.cell? ⟨wr.heap.size, 5, none⟩ = some (.slice a.la r.l.kids.length a.lc) ∧ w'.cell? ⟨wr.heap.size, 6, none⟩ = some (.int .i64 r.r.v) ∧ w'.cell? ⟨wr.heap.size, 7, none⟩ = some (.int .i64 r.r.op) ∧ w'.cell? ⟨wr.heap.size, 8, none⟩ = some (.int .i64 r.r.imm) ∧ w'.cell? ⟨wr.heap.size, 9, none⟩ = some (.int .i64 r.r.iv) ∧ w'.cell? ⟨wr.heap.size, 10, none⟩ = some (.slice a.ra r.r.kids.length a.rc)) (by kernel_rfl) (by rw [HwD.out]; exact ⟨hbD.cell 0, hbD.cell 1, hbD.cell 2, hbD.cell 3, hbD.cell 4, hbD.cell 5, hbD.cell 6, hbD.cell 7, hbD.cell 8, hbD.cell 9, hbD.cell 10⟩) (fun hHeld => ?_)
     rw [HwD.out] at hHeld ⊢
     refine wpT 0 ?_
     try simp only [put_y]
     try simp only [Act.put]
     try simp only [put_z]
     refine wpT 1 ?_
     try simp only [put_y]
     try simp only [Act.put]
     try simp only [put_z]
     refine wpT 2 ?_
     try simp only [put_y]
     try simp only [Act.put]
     try simp only [put_z]
     refine wpT 3 ?_
     try simp only [put_y]
     try simp only [Act.put]
     try simp only [put_z]
     refine wpT 4 ?_
     try simp only [put_y]
     try simp only [Act.put]
     try simp only [put_z]
     refine wpT 5 ?_
     try simp only [put_y]
     try simp only [Act.put]
     try simp only [put_z]
     refine wpT 6 ?_
     try simp only [put_y]
     try simp only [Act.put]
     try simp only [put_z]
     refine wpT 10 ?_
     try simp only [put_y]
     try simp only [Act.put]
     try simp only [put_z]
     refine wpT 11 ?_
     try simp only [put_y]
     try simp only [Act.put]
     try simp only [put_z]
     refine wpAnyH_ready (rs := [7]) (by kernel_rfl) (by simp) ?_
     refine AllReadyH.cons rfl (fun K hK => ?_) AllReadyH.nil
     go_simp
     refine (CL.out _ uD).mono ?_
     rintro e w5 ⟨rfl, u5⟩
     have h5 : Upd Non w4 w5 := uD.then_non u5
     have hb5 := HB4.out.upd h5 (fun f => f)
     unfold rlCells at hb5
     go_wp2_with fail
     refine hK.out _ _ ?_ (fun hHeld => ?_)
     ·
      exact ⟨hb5.cell 0, hb5.cell 1, hb5.cell 2, hb5.cell 3, hb5.cell 4, hb5.cell 5, hb5.cell 6, hb5.cell 7, hb5.cell 8, hb5.cell 9, hb5.cell 10⟩
     clear hK K
     try simp only [put_y]
     try simp only [Act.put]
     try simp only [put_z]
     refine wpT 8 ?_
     try simp only [put_y]
     try simp only [Act.put]
     try simp only [put_z]
     refine wpT 9 ?_
     try simp only [put_y]
     try simp only [Act.put]
     try simp only [put_z]
     refine wpAnyH_ready (rs := [12]) (by kernel_rfl) (by simp) ?_
     refine AllReadyH.cons rfl (fun K hK => ?_) AllReadyH.nil
     go_simp
     refine (CR.out _ h5).mono ?_
     rintro e w6 ⟨rfl, u6⟩
     have h6 : Upd Non w4 w6 := h5.then_non u6
     have hb6 := HB4.out.upd h6 (fun f => f)
     unfold rlCells at hb6
     go_wp2_with fail
     refine hK.out _ _ ?_ (fun hHeld => ?_)
     ·
      exact ⟨hb6.cell 0, hb6.cell 1, hb6.cell 2, hb6.cell 3, hb6.cell 4, hb6.cell 5, hb6.cell 6, hb6.cell 7, hb6.cell 8, hb6.cell 9, hb6.cell 10⟩
     clear hK K
     try simp only [put_y]
     try simp only [Act.put]
     try simp only [put_z]
     refine wpT 13 ?_
     try simp only [put_y]
     try simp only [Act.put]
     try simp only [put_z]
     refine wpAnyH_ready (rs := [14]) (by kernel_rfl) (by simp) ?_
     refine AllReadyH.cons rfl (fun K hK => ?_) AllReadyH.nil
     have ho6 := Own.upd HO4.out h6 (fun _ _ f => f)
     have hs6 := h6.size
     have hU6 := HU4.out.size
     have hsq : ((((({ data := #[114, 117, 108, 101, 32] } : ByteArray) ++ r.name) ++ { data := #[58, 32] }) ++ f1) ++ { data := #[32, 61, 62, 32] } ++ f2).size ≤ 1600 := by rw [← kx_len, HE.out]; exact hsz
     refine step_apps rfl rfl rfl ho6 HA.out (by omega) rfl (by omega) ?_
     intro BB bb w7 ho7 hu7 hat7
     rw [HE.out] at ho7
     have h7 : Upd (At BA) w4 w7 := (h6.mono (fun _ _ f => f.elim)).trans hu7 (fun _ _ q => q)
     have hne : ¬ At BA wr.heap.size := Own.ne_blk ho6 hb6 (by decide)
     have hb7 := hb6.upd hu7 hne
     refine hK.out _ _ ?_ (fun hHeld => ?_)
     ·
      exact ⟨hb7.cell 0, hb7.cell 1, hb7.cell 2, hb7.cell 3, hb7.cell 4, hb7.cell 5, hb7.cell 6, hb7.cell 7, hb7.cell 8, hb7.cell 9, hb7.cell 10⟩
     clear hK K
     try simp only [put_y]
     try simp only [Act.put]
     try simp only [put_z]
     refine wpT 15 ?_
     try simp only [put_y]
     try simp only [Act.put]
     try simp only [put_z]
     refine wpAnyH_done (by kernel_rfl) ?_ _
     have HLE : Hid ((((((({ data := #[114, 117, 108, 101, 32] } : ByteArray) ++ r.name) ++ { data := #[58, 32] }) ++ f1) ++ { data := #[32, 61, 62, 32] } ++ f2).size = (hdF r).length)) := by show _ = _; rw [← kx_len, HE.out]
     have HLS : Hid (5 + r.name.size + 2 + f1.size + 4 + f2.size = (hdF r).length) := by
      show _ = _
      rw [← HLE.out]
      simp only [ByteArray.size_append', ByteArray.size_mk']
      rfl
     have HO7 := Lib.hid ho7
     have HU7 := Lib.hid h7
     have HA7 := Lib.hid hat7
     clear ho7 hu7 hat7 h7 hb7 hb6 hb5 hbD ho6 h6 h5 uD hq1 hq2 hq3 hq4 hq5
     go_wp2_with fail
     go_meet
     case rel =>
      refine ⟨BB, bb, bs ++ hdF r, ?_, ?_, HA7, rfl, HU7⟩
      ·
       rw [List.length_append, ← HLS.out]
      ·
       show Own _ _ _ _ _ _ _
       have := HO7.out
       rw [HLE.out] at this
       rw [List.length_append]
       exact this
    case rest =>
     clear CL CR HE hl1 hl2
     obtain ⟨BB, bb, bs2, rfl, HO, HA, HBS, HUC⟩ := hcut
     have hne : ¬ At BA wr.heap.size := Own.ne_blk HO4.out HB4.out (by decide)
     have hbc := HB4.out.upd HUC.out hne
     unfold rlCells at hbc
     have c11 := hbc.cell 11
     have hwlt : w.heap.size ≤ wr.heap.size := HU.out.size
     have HUW : Hid (Upd Non w wc) := HU4.out.trans HUC.out (fun q hq e => by have := HAO.out q e; omega)
     obtain ⟨m, Hm⟩ := nm r.conds.length
     obtain ⟨ca, Hca⟩ := nm a.ca
     rw [Hm.out, Hca.out] at c11
     have hm6 : m ≤ 6 := by rw [← Hm.out]; exact HF.out.few
     have hb2l : bs2.length ≤ 2000 * k + 1600 := by rw [HBS.out, List.length_append]; omega
     clear hbc
     go_wp2_with fail
     go_loopg [3, 6, 7, 8, 36] m (fun g v _ _ _ iv wq => ∃ (q : Nat) (BB : Option Addr) (bb : Nat) (b3 : Bs), Hid (g = m - q) ∧ q ≤ m ∧ iv = .int .i64 q ∧ v = .slice BB b3.length bb ∧ Hid (Own wq 5 1 BB b3.length bb (u8s b3)) ∧ Hid (∀ q, At BB q → w.heap.size ≤ q) ∧ Hid (b3 = bs2 ++ fmtCs (r.conds.take q) true) ∧ b3.length ≤ bs2.length + 50 * q ∧ Hid (Upd Non w wq))
     case atStart => exact ⟨0, BB, bb, bs2, rfl, Nat.zero_le _, rfl, rfl, HO, HA, by show _ = _; simp [fmtCs], by omega, HUW⟩
     case round =>
      clear HO HA HUC HUW hne c11
      obtain ⟨q, BB, bb, b3, Hgq, hq, rfl, rfl, HO, HA, HB3, hb3l, HUQ⟩ := hrel
      by_cases hqt : q < m
      ·
       have hql : q < r.conds.length := by rw [Hm.out]; exact hqt
       have htk := (HRW.out.c.upd HUQ.out (fun _ _ _ f => f)).take hql
       rw [Hca.out] at htk
       obtain ⟨b', o', rfl, hbw', y0, y1, y2, y3⟩ := htk
       have HCF := Lib.hid (HF.out.c _ (List.getElem_mem hql))
       have HTC : Hid (r.conds.take (q + 1) = r.conds.take q ++ [r.conds[q]]) := take_snoc' hql
       generalize r.conds[q] = cd at *
       have CFC := Lib.hid (rFormatCond_c cd HCF.out (wr.alloc (.cells #[.int .i64 cd.kind, .int .i64 cd.a, .int .i64 cd.b, .int .i64 cd.n] 66)))
       have hzc : (kstr (fmtC cd)).size ≤ 40 := ksz (fmtC_len HCF.out)
       have HKC : Hid (kx (kstr (fmtC cd)) = fmtC cd) := kx_kstr _
       obtain ⟨fc, Hfc⟩ := nm (kstr (fmtC cd))
       rw [Hfc.out] at CFC hzc HKC
       by_cases hq0 : q = 0
       ·
        have tq : ((q : Int) == 0) = true := by simp; omega
        have HE : Hid (kx (({ data := #[32, 105, 102, 32] } : ByteArray) ++ fc) = (if true && (r.conds.take q).isEmpty then [32, 105, 102, 32] else [44, 32]) ++ fmtC cd) := by
         show _ = _
         rw [show (true && (r.conds.take q).isEmpty) = true by rw [hq0]; rfl, if_pos rfl]
         rw [← HKC.out]
         simp [kx]
        have hsz : (({ data := #[32, 105, 102, 32] } : ByteArray) ++ fc).size ≤ 44 := by rw [ByteArray.size_append']; show 4 + fc.size ≤ 44; omega
        clear hq0
        have hsl : w.heap.size ≤ wr.heap.size := HUQ.out.size
        go_wp2_with fail
        refine CFC.out.mono ?_
        rintro e w8 ⟨rfl, hu8⟩
        have ua : Upd Non wr w8 := (Upd.refl.alloc (S := Non) (.cells #[.int .i64 cd.kind, .int .i64 cd.a, .int .i64 cd.b, .int .i64 cd.n] 66)).then_non hu8
        have hsl8 : w.heap.size ≤ w8.heap.size := Nat.le_trans hsl ua.size
        have ho8 := Own.upd HO.out ua (fun _ _ f => f)
        clear CFC hu8 y0 y1 y2 y3
        go_wp2_with (at_builtin; refine wpList_apps rfl rfl rfl ho8 HA.out hsl8 rfl (by omega) ?_; intro B4 b4 w9 ho9 hu9 hat9)
        rw [HE.out] at ho9
        have HU9 : Hid (Upd Non w w9) := (HUQ.out.then_non ua).trans hu9 (fun j hj e => by have := HA.out j e; omega)
        have HLN : Hid ((({ data := #[32, 105, 102, 32] } : ByteArray) ++ fc).size = ((if true && (r.conds.take q).isEmpty then [32, 105, 102, 32] else [44, 32]) ++ fmtC cd).length) := by show _ = _; rw [← HE.out, kx_len]
        have HLM : Hid (4 + fc.size = ((if true && (r.conds.take q).isEmpty then [32, 105, 102, 32] else [44, 32]) ++ fmtC cd).length) := by
         show _ = _
         rw [← HLN.out, ByteArray.size_append']
         rfl
        have hs44 : 4 + fc.size ≤ 44 := by omega
        rw [HLN.out] at ho9
        have HO9 := Lib.hid ho9
        have HA9 := Lib.hid hat9
        clear ho9 hu9 hat9 ho8 ua hsz
        go_roundg (m - (q + 1))
        case measure => rw [Hgq.out]; omega
        case rel =>
         refine ⟨q + 1, B4, b4, b3 ++ ((if true && (r.conds.take q).isEmpty then [32, 105, 102, 32] else [44, 32]) ++ fmtC cd), rfl, by omega, by go_num, by rw [List.length_append, ← HLM.out], ?_, HA9.out, ?_, ?_, HU9⟩
         ·
          show Own _ _ _ _ _ _ _
          rw [List.length_append]
          exact HO9.out
         ·
          show _ = _
          rw [HTC.out, fmtCs_snoc, HB3.out, List.append_assoc]
         ·
          rw [List.length_append, ← HLM.out]
          omega
       ·
        have tq : ((q : Int) == 0) = false := by simp; omega
        have HE : Hid (kx (({ data := #[44, 32] } : ByteArray) ++ fc) = (if true && (r.conds.take q).isEmpty then [32, 105, 102, 32] else [44, 32]) ++ fmtC cd) := by
         show _ = _
         rw [show (true && (r.conds.take q).isEmpty) = false by rw [Bool.true_and, List.isEmpty_eq_false_iff]; intro ht; have := congrArg List.length ht; rw [List.length_take] at this; simp only [List.length_nil] at this; omega, if_neg (by decide)]
         rw [← HKC.out]
         simp [kx]
        have hsz : (({ data := #[44, 32] } : ByteArray) ++ fc).size ≤ 44 := by rw [ByteArray.size_append']; show 2 + fc.size ≤ 44; omega
        clear hq0
        have hsl : w.heap.size ≤ wr.heap.size := HUQ.out.size
        go_wp2_with fail
        refine CFC.out.mono ?_
        rintro e w8 ⟨rfl, hu8⟩
        have ua : Upd Non wr w8 := (Upd.refl.alloc (S := Non) (.cells #[.int .i64 cd.kind, .int .i64 cd.a, .int .i64 cd.b, .int .i64 cd.n] 66)).then_non hu8
        have hsl8 : w.heap.size ≤ w8.heap.size := Nat.le_trans hsl ua.size
        have ho8 := Own.upd HO.out ua (fun _ _ f => f)
        clear CFC hu8 y0 y1 y2 y3
        go_wp2_with (at_builtin; refine wpList_apps rfl rfl rfl ho8 HA.out hsl8 rfl (by omega) ?_; intro B4 b4 w9 ho9 hu9 hat9)
        rw [HE.out] at ho9
        have HU9 : Hid (Upd Non w w9) := (HUQ.out.then_non ua).trans hu9 (fun j hj e => by have := HA.out j e; omega)
        have HLN : Hid ((({ data := #[44, 32] } : ByteArray) ++ fc).size = ((if true && (r.conds.take q).isEmpty then [32, 105, 102, 32] else [44, 32]) ++ fmtC cd).length) := by show _ = _; rw [← HE.out, kx_len]
        have HLM : Hid (2 + fc.size = ((if true && (r.conds.take q).isEmpty then [32, 105, 102, 32] else [44, 32]) ++ fmtC cd).length) := by
         show _ = _
         rw [← HLN.out, ByteArray.size_append']
         rfl
        have hs44 : 2 + fc.size ≤ 44 := by omega
        rw [HLN.out] at ho9
        have HO9 := Lib.hid ho9
        have HA9 := Lib.hid hat9
        clear ho9 hu9 hat9 ho8 ua hsz
        go_roundg (m - (q + 1))
        case measure => rw [Hgq.out]; omega
        case rel =>
         refine ⟨q + 1, B4, b4, b3 ++ ((if true && (r.conds.take q).isEmpty then [32, 105, 102, 32] else [44, 32]) ++ fmtC cd), rfl, by omega, by go_num, by rw [List.length_append, ← HLM.out], ?_, HA9.out, ?_, ?_, HU9⟩
         ·
          show Own _ _ _ _ _ _ _
          rw [List.length_append]
          exact HO9.out
         ·
          show _ = _
          rw [HTC.out, fmtCs_snoc, HB3.out, List.append_assoc]
         ·
          rw [List.length_append, ← HLM.out]
          omega
      ·
       obtain rfl : m = q := by omega
       have hsl : w.heap.size ≤ wr.heap.size := HUQ.out.size
       have HZE : Hid (kx ({ data := #[59, 10] } : ByteArray) = [59, 10]) := rfl
       have hsz2 : ({ data := #[59, 10] } : ByteArray).size = 2 := rfl
       go_wp2_with (at_builtin; refine wpList_apps rfl rfl rfl HO.out HA.out hsl rfl (by omega) ?_; intro B4 b4 w9 ho9 hu9 hat9)
       have HT : Hid (b3 ++ [59, 10] = fmtRs (L.take (k + 1))) := by
        show _ = _
        rw [HTK.out, fmtRs_snoc, fmtR_hd, HB3.out, HBS.out, HB.out, ← Hm.out, List.take_length]
        simp
       have HIA : Hid (∀ x ∈ L.take (k + 1), implF x = true) := fun x hx => by
        rw [HTK.out] at hx
        rcases List.mem_append.1 hx with hx | hx
        ·
         exact HI2.out x hx
        ·
         rw [List.mem_singleton] at hx; subst hx; exact Hv.out
       have HU9 : Hid (Upd Non w w9) := HUQ.out.trans hu9 (fun j hj e => by have := HA.out j e; omega)
       rw [HZE.out, HT.out] at ho9
       have HO9 := Lib.hid ho9
       have HA9 := Lib.hid hat9
       clear ho9 hu9 hat9
       go_roundg (n - (k + 1))
       case measure => rw [Hg.out]; omega
       case rel =>
        have hlen : b3.length + 2 = (fmtRs (L.take (k + 1))).length := by rw [← HT.out]; simp
        refine ⟨k + 1, B4, b4, fmtRs (L.take (k + 1)), rfl, by omega, by go_num, by rw [← hlen], ?_, HA9.out, rfl, ?_, HIA, HU9⟩
        ·
         show Own _ _ _ _ _ _ _
         rw [← hlen]
         exact HO9.out
        ·
         have := fmtRs_len (L := L.take (k + 1)) (fun x hx => impl_fm (HIA.out x hx) (HI.out x (List.mem_of_mem_take hx)))
         rw [List.length_take] at this
         omega
  ·
   obtain rfl : n = k := by omega
   have hcv := conv_own HO.out rfl
   have HE : Hid (kstr bs = res) := by
    show _ = _
    rw [← Hres.out, HB.out]
    unfold printF
    have h1 := HI2.out
    rw [← Hn.out, List.take_length] at h1 ⊢
    rw [if_pos (List.all_eq_true.2 h1)]
   rw [HE.out] at hcv
   go_wp2_with fail
   go_ret
   exact ⟨rfl, HU.out⟩
end Go.Proofs.Ytblkgjdhaibhgaa
namespace Go.Proofs.Ytblkgjdhaibhgaa
open Go.RowKit
theorem rParse_all (s : ByteArray) (w : World) : Calls Try.prog 7 #[.string s] w (ParseP (parseF (kx s)) w) :=
 rParse_c axiomF axiomF_sz s (fun _ q w => rAxiom_c q w) w
def nmCs (l : List (Bs × Bs)) : List Value := l.map fun x => .string (kstr x.1)
theorem nmCs_snoc (l : List (Bs × Bs)) (x : Bs × Bs) : nmCs (l ++ [x]) = nmCs l ++ [.string (kstr x.1)] := by simp [nmCs]
theorem T_strs : SlT Try.prog 35 9 1 16 := by
 obtain ⟨i, h1, h2, h3, h4⟩ := info_parts (show (Try.prog.info? 9).map (fun i => (i.zero, i.size, i.bytes)) = some (some (.string ⟨#[]⟩), 1, 16) from by kernel_rfl)
 exact ⟨Try.underlying35, ⟨i, _, h1, h2, h3, h4, rfl⟩, by omega⟩
set_option maxRecDepth 100000 in
set_option maxHeartbeats 1000000 in
theorem rAxioms_c (w : World) : Calls Try.prog 9 #[] w fun e w' => ∃ (A : Option Addr) (c : Nat), e = .returned (.slice A 22 c) ∧ Own w' 9 1 A 22 c (nmCs axL) ∧ (∀ k, At A k → w.heap.size ≤ k) ∧ Upd Non w w' := by
 have CA := Lib.hid (raxioms_c w)
 go_enter Try.func9, Try.ntmps9
 go_wp2_with fail
 refine CA.out.mono ?_
 rintro e w2 ⟨rfl, hbt, hu2⟩
 have HT := Lib.hid hbt
 have HU2 := Lib.hid hu2
 have hs2 := hu2.size
 clear hbt hu2 CA
 go_wp2_with fail
 go_loopg [1, 3, 6] 22 (fun g v _ iv wr => ∃ (j : Nat) (A : Option Addr) (c : Nat), Hid (g = 22 - j) ∧ j ≤ 22 ∧ iv = .int .i64 j ∧ v = .slice A j c ∧ Hid (Own wr 9 1 A j c (nmCs (axL.take j))) ∧ Hid (∀ k, At A k → w2.heap.size ≤ k) ∧ Hid (Upd Non w2 wr))
 case atStart => exact ⟨0, none, 0, rfl, Nat.zero_le _, rfl, rfl, Own.none_, fun _ q => (At.none_ q).elim, Upd.refl⟩
 case round =>
  obtain ⟨j, A, c, Hg, hj, rfl, rfl, HO, HA, HU⟩ := hrel
  have hb := HT.out.upd HU.out (fun f => f)
  by_cases hlt : j < 22
  ·
   have hal : j < axL.length := hlt
   obtain ⟨k0, k1⟩ := axCs_get hal
   have c0 : wr.cell? ⟨w.heap.size, j * 2, none⟩ = some (.string (kstr axL[j].1)) := by rw [hb.cell]; simpa using k0
   have c1 : wr.cell? ⟨w.heap.size, j * 2 + 1, none⟩ = some (.string (kstr axL[j].2)) := by rw [hb.cell]; simpa using k1
   have HTK : Hid (axL.take (j + 1) = axL.take j ++ [axL[j]]) := take_snoc' hal
   generalize axL[j] = xx at *
   obtain ⟨qa, Hqa⟩ := nm (kstr xx.1)
   obtain ⟨qb, Hqb⟩ := nm (kstr xx.2)
   rw [Hqa.out] at c0
   rw [Hqb.out] at c1
   have hsl := HU.out.size
   obtain ⟨W3, HW3⟩ := nm (wr.alloc (.cells #[.string qa, .string qb] 49))
   have e3 := HW3.out
   have u3 : Upd Non wr W3 := by rw [← e3]; exact Upd.refl.alloc _
   have b3 : Blk W3 wr.heap.size 49 #[.string qa, .string qb] := by rw [← e3]; exact Blk.new _ _ _
   have z0 := b3.cell 0
   have hs3 := u3.size
   have hoA := Own.upd HO.out u3 (fun _ _ f => f)
   have HU3 := Lib.hid (HU.out.then_non u3)
   clear k0 k1 hb b3 u3
   go_wp2_with (at_builtin; refine wpList_app rfl rfl T_strs rfl (hoA.alloc _) rfl (Sl.new _ _ _) rfl (by simp [Value.oneCell']) (by simp only [maxLen]; omega) (by omega) ?_; intro A4 c4 w4 ho4 hu4 hat4)
   have HU4 : Hid (Upd Non w2 w4) := (HU3.out.alloc _).trans hu4 (fun k hk e => by have := HA.out k e; omega)
   have HA4 : Hid (∀ k, At A4 k → w2.heap.size ≤ k) := fun k hk => by
    rcases hat4 k hk with q | q
    ·
     exact HA.out k q
    ·
     simp at q; omega
   have HO4 : Hid (Own w4 9 1 A4 (j + 1) c4 (nmCs (axL.take (j + 1)))) := by
    show Own _ _ _ _ _ _ _
    rw [HTK.out, nmCs_snoc, Hqa.out]
    exact ho4
   clear ho4 hu4 hat4 hoA
   go_roundg (22 - (j + 1))
   case measure => rw [Hg.out]; omega
   case rel => exact ⟨j + 1, A4, c4, rfl, by omega, by go_num, rfl, HO4.out, HA4.out, HU4.out⟩
  ·
   obtain rfl : j = 22 := by omega
   clear hb
   have hO := HO.out
   rw [List.take_of_length_le (show axL.length ≤ 22 from Nat.le_refl _)] at hO
   have HO2 := Lib.hid hO
   clear hO
   go_wp2_with fail
   go_ret
   exact ⟨A, c, rfl, HO2.out, fun k hk => by have := HA.out k hk; omega, HU2.out.then_non HU.out⟩
end Go.Proofs.Ytblkgjdhaibhgaa
namespace Go.Proofs.Ytblkgjdhaibhgaa
open Go.RowKit
def riB (r : Rl) : Bool := (nodes r.l).all (fun q => decide (-9223372036854775808 ≤ q.imm ∧ q.imm ≤ 9223372036854775807)) && (nodes r.r).all (fun q => decide (-9223372036854775808 ≤ q.imm ∧ q.imm ≤ 9223372036854775807)) && r.conds.all (fun c => decide (-9223372036854775808 ≤ c.n ∧ c.n ≤ 9223372036854775807))
theorem riB_ok {r : Rl} (h : riB r = true) : RlI r := by
 simp only [riB, Bool.and_eq_true, List.all_eq_true, decide_eq_true_eq] at h
 exact ⟨fun q hq => h.1.1 q hq, fun q hq => h.1.2 q hq, fun q hq => h.2 q hq⟩
theorem szB_ok {r : Rl} (h : szB r = true) : RlSz r := by
 simp only [szB, Bool.and_eq_true, decide_eq_true_eq] at h
 exact ⟨h.1.1.1, h.1.1.2, h.1.2, h.2⟩
theorem ktl (l : Bs) : (kstr l).toList = l := by rw [ByteArray.toList_eq]; rfl
def exT1 : Bs := [114, 117, 108, 101, 32, 122, 101, 114, 111, 58, 32, 40, 97, 100, 100, 32, 63, 120, 32, 48, 41, 32, 61, 62, 32, 63, 120, 59, 32, 47, 47, 32, 115, 111]
def exT2 : Bs := [97, 120, 105, 111, 109, 32, 110, 111, 116, 104, 105, 110, 103, 59]
def exP : Bs := [114, 117, 108, 101, 32, 122, 101, 114, 111, 58, 32, 40, 97, 100, 100, 32, 63, 97, 32, 48, 41, 32, 61, 62, 32, 63, 97, 59, 10]
theorem ex1 : (match parseF exT1 with | .ok [r] => decide (kx r.name = [122, 101, 114, 111]) && decide (r.vars = 1) && decide (printF [r] = exP) && szB r && riB r | _ => false) = true := by decide +kernel
theorem ex2 : (match parseF exT2 with | .error e => decide (e.1 = 3) && decide (e.2 = 6) | _ => false) = true := by decide +kernel
theorem ex1' : ∃ r, parseF exT1 = .ok [r] ∧ r.name = kstr [122, 101, 114, 111] ∧ r.vars = 1 ∧ printF [r] = exP ∧ RlSz r ∧ RlI r := by
 have h := ex1
 split at h
 ·
  rename_i r he
  simp only [Bool.and_eq_true, decide_eq_true_eq] at h
  exact ⟨r, he, by apply kx_inj; rw [kx_kstr]; exact h.1.1.1.1, h.1.1.1.2, h.1.1.2, szB_ok h.1.2, riB_ok h.2⟩
 ·
  cases h
theorem ex2' : parseF exT2 = .error (3, 6) := by
 have h := ex2
 split at h
 ·
  rename_i e he
  simp only [Bool.and_eq_true, decide_eq_true_eq] at h
  rw [he]
  obtain ⟨a, b⟩ := e
  rw [show a = 3 from h.1, show b = 6 from h.2]
 ·
  cases h
set_option maxRecDepth 100000 in
set_option maxHeartbeats 1000000 in
theorem RuExamples_c (w : World) : Calls Try.prog 3 #[] w fun e w' => e = .returned (.bool true) ∧ Upd Non w w' := by
 obtain ⟨r, hp, hnm, hvr, hpr, hsz, hri⟩ := ex1'
 have C1 := Lib.hid (rParse_all (kstr exT1) w)
 rw [kx_kstr, hp] at C1
 have C2 := Lib.hid (fun W => rParse_all (kstr exT2) W)
 have CX := Lib.hid (fun W => rAxioms_c W)
 have HP := Lib.hid hpr
 have HS := Lib.hid hsz
 have HI := Lib.hid hri
 clear hp hpr hsz hri
 go_enter Try.func3, Try.ntmps3
 go_wp2_with fail
 refine C1.out.mono ?_
 rintro e w1 ⟨u1, h⟩
 rcases h with ⟨er, h, _⟩ | ⟨Q, A, c, h, rfl, hv, hle⟩
 ·
  cases h
 injection h with h
 subst h
 have hs1 := u1.size
 have HU1 := Lib.hid u1
 have HV := Lib.hid hv
 clear u1 hv hle
 obtain ⟨W2, HW2⟩ := nm (w1.alloc (.cells #[.int .i64 0, .int .i64 0] 25))
 have u2 : Upd Non w1 W2 := by rw [← HW2.out]; exact Upd.refl.alloc _
 have b2 : Blk W2 w1.heap.size 25 #[.int .i64 0, .int .i64 0] := by rw [← HW2.out]; exact Blk.new _ _ _
 have C22 := Lib.hid (C2.out W2)
 rw [kx_kstr, ex2'] at C22
 go_upto_region 2 with fail
 rw [HW2.out]
 go_wp2_with fail
 refine C22.out.mono ?_
 rintro e w3 ⟨u3, h⟩
 rcases h with ⟨er, h, rfl⟩ | ⟨Q, A, c, h, _⟩
 rotate_left
 ·
  cases h
 injection h with h
 subst h
 have b3 := b2.upd u3 (fun f => f)
 obtain ⟨W4, HW4⟩ := nm (w3.alloc (.cells #[.int .i64 3, .int .i64 6] 25))
 have u4 : Upd Non w3 W4 := by rw [← HW4.out]; exact Upd.refl.alloc _
 have b4 : Blk W4 w3.heap.size 25 #[.int .i64 3, .int .i64 6] := by rw [← HW4.out]; exact Blk.new _ _ _
 have b5 := b3.upd u4 (fun f => f)
 have U4 := (u2.then_non u3).then_non u4
 have HB4 := Lib.hid b4
 have HB5 := Lib.hid b5
 have HU4 := Lib.hid U4
 have hV := HV.out.upd U4 (fun _ _ _ f => f)
 obtain ⟨b, o, a, rfl, _, hbw, hat, _⟩ := hV.at_ (i := 0) (by simp)
 have CP := Lib.hid (rPrint_c W4 _ _ c [r] hV (fun x hx => by rw [List.mem_singleton] at hx; rw [hx]; exact HS.out) (fun x hx => by rw [List.mem_singleton] at hx; rw [hx]; exact HI.out) (by simp))
 rw [HP.out] at CP
 unfold RlAt at hat
 rw [List.getElem_cons_zero, Nat.zero_mul, Nat.add_zero, hnm, hvr] at hat
 obtain ⟨x0, _, _, _, _, _, _, _, _, _, _, _, x12, _⟩ := hat
 go_upto_region 3 with fail
 rw [HW4.out]
 have y0 := b5.cell 0
 have y1 := b5.cell 1
 have z0 := b4.cell 0
 have z1 := b4.cell 1
 clear C1 C2 C22 HW2 HW4 b2 b3 b4 b5 u2 u3 u4 U4
 have hq1 : ((kstr [122, 101, 114, 111]).toList == [122, 101, 114, 111]) = true := by rw [ktl]; rfl
 have hq2 : ((kstr exP).toList == [114, 117, 108, 101, 32, 122, 101, 114, 111, 58, 32, 40, 97, 100, 100, 32, 63, 97, 32, 48, 41, 32, 61, 62, 32, 63, 97, 59, 10]) = true := by rw [ktl]; rfl
 obtain ⟨nz, Hnz⟩ := nm (kstr [122, 101, 114, 111])
 obtain ⟨ps, Hps⟩ := nm (kstr exP)
 rw [Hnz.out] at x0 hq1
 rw [Hps.out] at CP hq2
 go_wp2_with fail
 refine CP.out.mono ?_
 rintro e w5 ⟨rfl, u5⟩
 have z0 := cell_upd z0 u5 (fun f => f)
 have z1 := cell_upd z1 u5 (fun f => f)
 have CA := Lib.hid (CX.out w5)
 have HU5 := Lib.hid (HU4.out.then_non u5)
 clear CP x0 x12 y0 y1
 go_wp2_with fail
 refine CA.out.mono ?_
 rintro e w6 ⟨A6, c6, rfl, _, _, u6⟩
 clear CA z0 z1
 go_wp2_with fail
 go_ret
 exact ⟨rfl, (HU1.out.then_non HU5.out).then_non u6⟩
end Go.Proofs.Ytblkgjdhaibhgaa
namespace Go.Proofs.Ytblkgjdhaibhgaa
open Go.RowKit
theorem nodesL_of {q : Pt} : ∀ {ks : List Pt}, q ∈ nodesL ks → ∃ k ∈ ks, q ∈ nodes k
 | [], h => by simp [nodesL] at h
 | k :: ks, h => by
  rw [nodesL, List.mem_append] at h
  rcases h with h | h
  ·
   exact ⟨k, List.mem_cons_self, h⟩
  ·
   obtain ⟨k2, h1, h2⟩ := nodesL_of h
   exact ⟨k2, List.mem_cons_of_mem _ h1, h2⟩
theorem PI.mk {v op imm iv : Int} {ks : List Pt} (hi : I64 imm) (h : ∀ k ∈ ks, PI k) : PI (.mk v op imm iv ks) := by
 intro q hq
 rw [nodes_eq, List.mem_cons] at hq
 rcases hq with rfl | hq
 ·
  exact hi
 ·
  obtain ⟨k, h1, h2⟩ := nodesL_of hq
  exact h k h1 q h2
theorem ax_allR : axL.all (fun x => match axiomF x.1 with | some r => szB r && riB r && implF r && decide (cn r.l 0 0 = some (r.vars.toNat, r.imms.toNat)) && decide (kx r.name = x.1) | none => false) = true := by decide +kernel
structure AxOk (x : Bs × Bs) (r : Rl) : Prop where
 eq : axiomF x.1 = some r
 sz : RlSz r
 i : RlI r
 v : implF r = true
 rt : Rt r r.vars.toNat r.imms.toNat
 nm : r.name = kstr x.1
theorem ax_rule {x : Bs × Bs} (h : x ∈ axL) : ∃ r, AxOk x r := by
 have h1 := List.all_eq_true.1 ax_allR x h
 split at h1
 ·
  rename_i r he
  simp only [Bool.and_eq_true, decide_eq_true_eq] at h1
  obtain ⟨⟨⟨⟨a1, a2⟩, a3⟩, a4⟩, a5⟩ := h1
  refine ⟨r, he, szB_ok a1, riB_ok a2, a3, rt_of a3 (riB_ok a2) a4, ?_⟩
  rw [← a5]
  rfl
 ·
  cases h1
end Go.Proofs.Ytblkgjdhaibhgaa
namespace Go.Proofs.Ytblkgjdhaibhgaa
open Go.RowKit
structure RtOk (r : Rl) : Prop where
 v : implF r = true
 rt : Rt r r.vars.toNat r.imms.toNat
theorem lex_rules : ∀ L : List Rl, (∀ r ∈ L, Rt6 r) → Lex (fmtRs L) (L.map wR).flatten
 | [], _ => Lex.nil
 | r :: L, h => by
  have h1 := (lex_rule (h r List.mem_cons_self)).app (lex_rules L fun x hx => h x (List.mem_cons_of_mem _ hx))
  rw [List.map_cons, List.flatten_cons]
  exact h1
theorem parse_print {L : List Rl} (h : ∀ r ∈ L, RtOk r) (hn : (L.map (·.name)).Nodup) (hl : L.length ≤ 160) (hs : (fmtRs L).length ≤ 20000) : parseF (fmtRs L) = .ok L := by
 have e1 : ((L.map fun r => (wR r, r)).map (·.1)) = L.map wR := by rw [List.map_map]; rfl
 have e2 : ((L.map fun r => (wR r, r)).map (·.2)) = L := by rw [List.map_map]; exact List.map_id L
 have := parse_file (ax := axiomF) (s := fmtRs L) (cs := L.map fun r => (wR r, r)) (by rw [e1]; exact lex_rules L fun r hr => (h r hr).rt.t) hs (fun c hc => by
  obtain ⟨r, hr, rfl⟩ := List.mem_map.1 hc
  exact ⟨rule_rt (h r hr).rt, (h r hr).v⟩) (by rw [e2]; exact hn) (by rw [List.length_map]; exact hl)
 rw [e2] at this
 exact this
theorem print_ok {L : List Rl} (h : ∀ r ∈ L, RtOk r) : printF L = fmtRs L := by
 unfold printF
 rw [if_pos (List.all_eq_true.2 fun r hr => (h r hr).v)]
end Go.Proofs.Ytblkgjdhaibhgaa
namespace Go.Proofs.Ytblkgjdhaibhgaa
open Go.RowKit
def axLn (x : Bs × Bs) : Bs := [97, 120, 105, 111, 109, 32] ++ x.1 ++ [59, 10]
def axFile (l : List (Bs × Bs)) : Bs := (l.map axLn).flatten
theorem axFile_snoc (l : List (Bs × Bs)) (x : Bs × Bs) : axFile (l ++ [x]) = axFile l ++ axLn x := by simp [axFile]
def wAx (x : Bs × Bs) : List Bs := [[97, 120, 105, 111, 109], x.1, [59]]
theorem ax_names : axL.all (fun x => wOk x.1 && decide (x.1 ≠ [])) = true := by decide +kernel
theorem lex_ax {x : Bs × Bs} (hx : x ∈ axL) : Lex (axLn x) (wAx x) := by
 have hn := List.all_eq_true.1 ax_names x hx
 simp only [Bool.and_eq_true, decide_eq_true_eq] at hn
 have h0 : Lex [59, 10] [[59]] := Lex.app (s1 := [59]) (w1 := [[59]]) (s2 := [10]) (w2 := []) (Lex.pn (by decide)) (Lex.sp (by decide))
 have h1 := Lex.word (w := x.1) (d := 59) (s := [10]) hn.1 hn.2 (.inr (by decide)) h0
 have h2 := Lex.app (s1 := [32]) (w1 := []) (Lex.sp (by decide)) h1
 have h3 := Lex.word (w := [97, 120, 105, 111, 109]) (d := 32) (s := x.1 ++ 59 :: [10]) (by decide) (by simp) (.inl (by decide)) h2
 have e : [97, 120, 105, 111, 109] ++ 32 :: (x.1 ++ 59 :: [10]) = axLn x := by simp [axLn]
 rw [e] at h3
 exact h3
theorem lex_axs : ∀ l : List (Bs × Bs), (∀ x ∈ l, x ∈ axL) → Lex (axFile l) (l.map wAx).flatten
 | [], _ => Lex.nil
 | x :: l, h => by
  have h1 := (lex_ax (h x List.mem_cons_self)).app (lex_axs l fun y hy => h y (List.mem_cons_of_mem _ hy))
  rw [List.map_cons, List.flatten_cons]
  exact h1
theorem item_wAx {x : Bs × Bs} {r : Rl} (hx : x ∈ axL) (h : axiomF x.1 = some r) : ItemOk axiomF (wAx x) r := by
 have hn := List.all_eq_true.1 ax_names x hx
 simp only [Bool.and_eq_true, decide_eq_true_eq] at hn
 have hW := ws_all (wAx x)
 obtain ⟨T, hT⟩ : ∃ T, ((wAx x).map fun s => ((s, 0) : Bs × Nat)) = T := ⟨_, rfl⟩
 rw [hT] at hW
 obtain ⟨t1, hW⟩ := Ws.cons (a := [97, 120, 105, 111, 109]) (b := [x.1, [59]]) hW
 obtain ⟨t2, hW⟩ := hW.cons
 have t3 := hW.cons.1
 simp only [Nat.zero_add] at t1 t2 t3
 refine ⟨by simp [wAx], offF T 0 1, ⟨3, [], []⟩, ?_, rfl⟩
 rw [hT]
 unfold itemF
 rw [if_pos (by dsimp only; exact t1)]
 dsimp only
 rw [any_rt (fin := 0) (vs := []) (ms := []) t2 hn.1 hn.2]
 dsimp only
 rw [exp_rt (fin := 0) (vs := []) (ms := []) t3]
 dsimp only
 rw [h]
def AxRs (S : List (Bs × Bs)) (Q : List Rl) : Prop := Q.length = S.length ∧ ∀ i (h : i < S.length) (h2 : i < Q.length), AxOk S[i] Q[i]
theorem AxRs.nil : AxRs [] [] := ⟨rfl, fun i h => by simp at h⟩
theorem AxRs.snoc {S : List (Bs × Bs)} {Q : List Rl} (h : AxRs S Q) {x : Bs × Bs} {r : Rl} (k : AxOk x r) : AxRs (S ++ [x]) (Q ++ [r]) := by
 refine ⟨by simp [h.1], fun i h1 h2 => ?_⟩
 have hl := h.1
 rcases Nat.lt_or_ge i S.length with q | q
 ·
  rw [List.getElem_append_left q, List.getElem_append_left (by omega)]
  exact h.2 i q (by omega)
 ·
  have e : i = S.length := by simp at h1; omega
  subst e
  rw [List.getElem_append_right (Nat.le_refl _), List.getElem_append_right (by omega)]
  simpa [hl] using k
theorem AxRs.mem {S : List (Bs × Bs)} {Q : List Rl} (h : AxRs S Q) {r : Rl} (hr : r ∈ Q) : ∃ x ∈ S, AxOk x r := by
 obtain ⟨i, hi, rfl⟩ := List.mem_iff_getElem.1 hr
 have hi2 : i < S.length := by rw [← h.1]; exact hi
 exact ⟨S[i], List.getElem_mem hi2, h.2 i hi2 hi⟩
theorem AxRs.names {S : List (Bs × Bs)} {Q : List Rl} (h : AxRs S Q) : Q.map (·.name) = S.map (fun x => kstr x.1) := by
 apply List.ext_getElem
 ·
  simp [h.1]
 ·
  intro i h1 h2
  simp only [List.getElem_map]
  exact (h.2 i (by simpa using h2) (by simpa using h1)).nm
theorem ax_nodup : (axL.map (·.1)).Nodup := by decide +kernel
theorem AxRs.nodup {S : List (Bs × Bs)} {Q : List Rl} (h : AxRs S Q) (hs : S.Sublist axL) : (Q.map (·.name)).Nodup := by
 rw [h.names]
 have h1 : (S.map (·.1)).Nodup := (hs.map _).nodup ax_nodup
 have e : S.map (fun x => kstr x.1) = (S.map (·.1)).map kstr := by rw [List.map_map]; rfl
 rw [e]
 refine List.Pairwise.map _ (fun a b hab q => hab ?_) h1
 rw [← kx_kstr a, q, kx_kstr]
theorem sum_sub {α : Type} (f : α → Nat) {a b : List α} (h : a.Sublist b) : (a.map f).sum ≤ (b.map f).sum := by
 induction h with
 | slnil => exact Nat.le_refl _
 | cons x _ ih => simp only [List.map_cons, List.sum_cons]; omega
 | cons_cons x _ ih => simp only [List.map_cons, List.sum_cons]; omega
theorem axFile_len (l : List (Bs × Bs)) : (axFile l).length = (l.map fun x => (axLn x).length).sum := by
 induction l with
 | nil => rfl
 | cons x l ih =>
  have e : axFile (x :: l) = axLn x ++ axFile l := by simp [axFile]
  rw [e, List.length_append, ih, List.map_cons, List.sum_cons]
def axRn (x : Bs × Bs) : Nat := match axiomF x.1 with | some r => (fmtR r).length | none => 0
theorem ax_tot : (axL.map axRn).sum ≤ 20000 ∧ (axL.map fun x => (axLn x).length).sum ≤ 20000 := by decide +kernel
theorem fmtRs_ax : ∀ {S : List (Bs × Bs)} {Q : List Rl}, AxRs S Q → (fmtRs Q).length = (S.map axRn).sum
 | [], [], _ => rfl
 | [], _ :: _, h => by have := h.1; simp at this
 | _ :: _, [], h => by have := h.1; simp at this
 | x :: S, r :: Q, h => by
  have h0 : AxOk x r := h.2 0 (Nat.zero_lt_succ _) (Nat.zero_lt_succ _)
  have ih := fmtRs_ax (S := S) (Q := Q) ⟨by have := h.1; simpa using this, fun i h1 h2 => h.2 (i + 1) (Nat.succ_lt_succ h1) (Nat.succ_lt_succ h2)⟩
  have e : fmtRs (r :: Q) = fmtR r ++ fmtRs Q := rfl
  rw [e, List.length_append, ih, List.map_cons, List.sum_cons]
  congr 1
  unfold axRn
  rw [h0.eq]
theorem sub_len {S : List (Bs × Bs)} (hs : S.Sublist axL) : S.length ≤ 22 := hs.length_le
theorem axfile_parse {S : List (Bs × Bs)} {Q : List Rl} (h : AxRs S Q) (hs : S.Sublist axL) : parseF (axFile S) = .ok Q := by
 have e1 : ((S.zip Q).map fun z => (wAx z.1, z.2)).map (·.1) = S.map wAx := by
  rw [List.map_map]
  have : ((fun z : List Bs × Rl => z.1) ∘ fun z : (Bs × Bs) × Rl => (wAx z.1, z.2)) = wAx ∘ Prod.fst := rfl
  rw [this, ← List.map_map, List.map_fst_zip (Nat.le_of_eq h.1.symm)]
 have e2 : ((S.zip Q).map fun z => (wAx z.1, z.2)).map (·.2) = Q := by
  rw [List.map_map]
  have : ((fun z : List Bs × Rl => z.2) ∘ fun z : (Bs × Bs) × Rl => (wAx z.1, z.2)) = Prod.snd := rfl
  rw [this, List.map_snd_zip (Nat.le_of_eq h.1)]
 have hl := sub_len hs
 have := parse_file (ax := axiomF) (s := axFile S) (cs := (S.zip Q).map fun z => (wAx z.1, z.2)) (by rw [e1]; exact lex_axs S fun x hx => hs.subset hx) (by
  have := sum_sub (fun x => (axLn x).length) hs
  have := ax_tot.2
  rw [axFile_len]; omega) (fun c hc => by
  obtain ⟨z, hz, rfl⟩ := List.mem_map.1 hc
  obtain ⟨i, hi, rfl⟩ := List.mem_iff_getElem.1 hz
  have hi2 : i < S.length := by simp at hi; omega
  have hi3 : i < Q.length := by simp at hi; omega
  have k := h.2 i hi2 hi3
  rw [List.getElem_zip]
  exact ⟨item_wAx (hs.subset (List.getElem_mem hi2)) k.eq, k.v⟩) (by rw [e2]; exact h.nodup hs) (by simp; omega)
 rw [e2] at this
 exact this
theorem axprint_parse {S : List (Bs × Bs)} {Q : List Rl} (h : AxRs S Q) (hs : S.Sublist axL) : parseF (printF Q) = .ok Q := by
 have hok : ∀ r ∈ Q, RtOk r := fun r hr => by
  obtain ⟨x, _, k⟩ := h.mem hr
  exact ⟨k.v, k.rt⟩
 have hl := sub_len hs
 rw [print_ok hok]
 refine parse_print hok (h.nodup hs) (by rw [h.1]; omega) ?_
 rw [fmtRs_ax h]
 exact Nat.le_trans (sum_sub axRn hs) ax_tot.1
end Go.Proofs.Ytblkgjdhaibhgaa
namespace Go.Proofs.Ytblkgjdhaibhgaa
open Go.RowKit
set_option maxRecDepth 100000 in
set_option maxHeartbeats 2000000 in
theorem rEqualPats_c (p : Pt) : ∀ (q : Pt) (w : World) (F G : Nat → Prop) (KA KC : Option Addr) (kc kd : Nat), PtK w F p KA kc → PtK w G q KC kd → p.size ≤ 1000000000000 →
  Calls Try.prog 35 #[pv p KA kc, pv q KC kd] w fun e w' => e = .returned (.bool (ptE p q)) ∧ Upd Non w w' := by
 induction p using Pt.ind with
 | h p ih =>
  intro q w F G KA KC kc kd hp hq hs
  have hse := Pt.size_eq p
  have hle := Pt.len_le p.kids
  have HI := Lib.hid ih
  have HE := Lib.hid (ptE_eq p q)
  obtain ⟨res, Hres⟩ := nm (ptE p q)
  rw [Hres.out] at HE ⊢
  obtain ⟨W1, HW1⟩ := nm (w.alloc (.cells #[.int .i64 p.v, .int .i64 p.op, .int .i64 p.imm, .int .i64 p.iv, .slice KA p.kids.length kc] 30))
  have u1 : Upd Non w W1 := by rw [← HW1.out]; exact Upd.refl.alloc _
  have b1 : Blk W1 w.heap.size 30 #[.int .i64 p.v, .int .i64 p.op, .int .i64 p.imm, .int .i64 p.iv, .slice KA p.kids.length kc] := by rw [← HW1.out]; exact Blk.new _ _ _
  have s1 : W1.heap.size = w.heap.size + 1 := by rw [← HW1.out]; simp
  obtain ⟨W2, HW2⟩ := nm (W1.alloc (.cells #[.int .i64 q.v, .int .i64 q.op, .int .i64 q.imm, .int .i64 q.iv, .slice KC q.kids.length kd] 30))
  have u2 : Upd Non W1 W2 := by rw [← HW2.out]; exact Upd.refl.alloc _
  have b2 : Blk W2 (w.heap.size + 1) 30 #[.int .i64 q.v, .int .i64 q.op, .int .i64 q.imm, .int .i64 q.iv, .slice KC q.kids.length kd] := by rw [← HW2.out, ← s1]; exact Blk.new _ _ _
  have b1 := b1.upd u2 (fun f => f)
  have U2 := u1.then_non u2
  have e1 := HW1.out
  have e2 := HW2.out
  have HB1 := Lib.hid b1
  have HB2 := Lib.hid b2
  have HU := Lib.hid U2
  have HP := Lib.hid (PtK.upd U2 (fun _ _ _ f => f) p KA kc hp)
  have HQ := Lib.hid (PtK.upd U2 (fun _ _ _ f => f) q KC kd hq)
  have c0 := b1.cell 0
  have c1 := b1.cell 1
  have c2 := b1.cell 2
  have c3 := b1.cell 3
  have c4 := b1.cell 4
  have d0 := b2.cell 0
  have d1 := b2.cell 1
  have d2 := b2.cell 2
  have d3 := b2.cell 3
  have d4 := b2.cell 4
  unfold pv
  clear ih hp hq u1 u2 b1 b2 U2 HW1 HW2
  have HV : Hid ((p.v != q.v) = !decide (p.v = q.v)) := by show _ = _; by_cases h : p.v = q.v <;> simp [h]
  obtain ⟨pn, Hpn⟩ := nm p.kids.length
  obtain ⟨qn, Hqn⟩ := nm q.kids.length
  rw [Hpn.out] at c4 e1 hle HE
  rw [Hqn.out] at d4 e2 HE
  rw [Hpn.out, Hqn.out]
  by_cases h1 : p.v = q.v
  ·
   by_cases h2 : p.op = q.op
   ·
    by_cases h3 : p.imm = q.imm
    ·
     by_cases h4 : p.iv = q.iv
     ·
      by_cases h5 : pn = qn
      ·
       have t1 : (p.v != q.v) = false := by simpa using h1
       have t2 : (p.op != q.op) = false := by simpa using h2
       have t3 : (p.imm != q.imm) = false := by simpa using h3
       have t4 : (p.iv != q.iv) = false := by simpa using h4
       have t5 : ((pn : Int) != (qn : Int)) = false := by simp [h5]
       have HR : Hid (res = ptEL p.kids q.kids) := by show _ = _; rw [HE.out, decide_eq_true ⟨h1, h2, h3, h4, h5⟩, Bool.true_and]
       clear h1 h2 h3 h4
       subst h5
       obtain ⟨n, rfl⟩ : ∃ m, m = pn := ⟨_, rfl⟩
       have hn12 : n ≤ 1000000000000 := by omega
       go_enter Try.func35, Try.ntmps35
       go_wp2_with fail
       clear e1 e2 c0 c1 c2 c3 d0 d1 d2 d3 t1 t2 t3 t4 t5
       go_loopg [5, 44] n (fun g _ iv wr => ∃ k : Nat, Hid (g = n - k) ∧ k ≤ n ∧ iv = .int .i64 k ∧ Hid (∀ i (h : i < p.kids.length) (h2 : i < q.kids.length), i < k → ptE p.kids[i] q.kids[i] = true) ∧ Hid (Upd Non W2 wr))
       case atStart => exact ⟨0, rfl, Nat.zero_le _, rfl, fun i _ _ h => by omega, Upd.refl⟩
       case round =>
        obtain ⟨k, Hg, hk, rfl, HA, Hu⟩ := hrel
        have c4 := cell_upd c4 Hu.out (fun f => f)
        have d4 := cell_upd d4 Hu.out (fun f => f)
        by_cases hlt : k < n
        ·
         have hkl : k < p.kids.length := by rw [Hpn.out]; exact hlt
         have hkq : k < q.kids.length := by rw [Hqn.out]; exact hlt
         obtain ⟨b, o, rfl, hF, hbw, KB, c1_, g0, g1, g2, g3, g4, g5⟩ := (PtK.upd Hu.out (fun _ _ _ f => f) p KA kc HP.out).at_ hkl
         obtain ⟨b2, o2, rfl, hG, hbw2, KZ, c2_, k0, k1, k2, k3, k4, k5⟩ := (PtK.upd Hu.out (fun _ _ _ f => f) q KC kd HQ.out).at_ hkq
         have hks : p.kids[k].size ≤ 1000000000000 := by have := Pt.kids_lt (List.getElem_mem hkl); omega
         have HNX : Hid (ptE p.kids[k] q.kids[k] = false → res = false) := fun h => by rw [HR.out]; exact ptEL_no hkl hkq h
         have HNY : Hid (ptE p.kids[k] q.kids[k] = true → ∀ i (h : i < p.kids.length) (h2 : i < q.kids.length), i < k + 1 → ptE p.kids[i] q.kids[i] = true) := fun h i h1 h2 h3 => by
          by_cases e : i = k
          ·
           subst e; exact h
          ·
           exact HA.out i h1 h2 (by omega)
         have CR := Lib.hid (fun W (u : Upd Non wr W) => HI.out _ (List.getElem_mem hkl) q.kids[k] W F G KB KZ c1_ c2_ (PtK.upd u (fun _ _ _ f => f) _ _ _ g5) (PtK.upd u (fun _ _ _ f => f) _ _ _ k5) hks)
         generalize p.kids[k] = x at *
         generalize q.kids[k] = z at *
         unfold pv at CR
         obtain ⟨B, HB⟩ := nm (ptE x z)
         rw [HB.out] at CR
         clear g5 k5 hks
         go_upto_region 6 with fail
         go_cut [58] (fun s wx => s = .bool (!B) ∧ Upd Non wr wx)
         case first =>
          obtain ⟨wD, HwD⟩ := nm wr.drew
          have uD : Upd Non wr wD := by rw [← HwD.out]; exact Upd.refl.drew
          refine wp_region_held_drew (S := fun w' => w'.cell? ⟨w.heap.size, 4, none⟩ = some (.slice (some ⟨b, o, none⟩) n kc) ∧ w'.cell? ⟨w.heap.size + 1, 4, none⟩ = some (.slice (some ⟨b2, o2, none⟩) n kd) ∧ w'.cell? ⟨b, o + k * 5, none⟩ = some (.int .i64 x.v) ∧ w'.cell? ⟨b, o + k * 5 + 1, none⟩ = some (.int .i64 x.op) ∧ w'.cell? ⟨b, o + k * 5 + 2, none⟩ = some (.int .i64 x.imm) ∧ w'.cell? ⟨b, o + k * 5 + 3, none⟩ = some (.int .i64 x.iv) ∧ w'.cell? ⟨b, o + k * 5 + 4, none⟩ = some (.slice KB x.kids.length c1_) ∧ w'.cell? ⟨b2, o2 + k * 5, none⟩ = some (.int .i64 z.v) ∧ w'.cell? ⟨b2, o2 + k * 5 + 1, none⟩ = some (.int .i64 z.op) ∧ w'.cell? ⟨b2, o2 + k * 5 + 2, none⟩ = some (.int .i64 z.imm) ∧ w'.cell? ⟨b2, o2 + k * 5 + 3, none⟩ = some (.int .i64 z.iv) ∧ w'.cell? ⟨b2, o2 + k * 5 + 4, none⟩ = some (.slice KZ z.kids.length c2_)) (by kernel_rfl) (by rw [HwD.out]; exact ⟨cell_upd c4 uD (fun f => f), cell_upd d4 uD (fun f => f), cell_upd g0 uD (fun f => f), cell_upd g1 uD (fun f => f), cell_upd g2 uD (fun f => f), cell_upd g3 uD (fun f => f), cell_upd g4 uD (fun f => f), cell_upd k0 uD (fun f => f), cell_upd k1 uD (fun f => f), cell_upd k2 uD (fun f => f), cell_upd k3 uD (fun f => f), cell_upd k4 uD (fun f => f)⟩) (fun hHeld => ?_)
          rw [HwD.out] at hHeld ⊢
          refine wpT 0 ?_
          try simp only [put_y]
          try simp only [Act.put]
          try simp only [put_z]
          refine wpT 1 ?_
          try simp only [put_y]
          try simp only [Act.put]
          try simp only [put_z]
          refine wpT 2 ?_
          try simp only [put_y]
          try simp only [Act.put]
          try simp only [put_z]
          refine wpT 3 ?_
          try simp only [put_y]
          try simp only [Act.put]
          try simp only [put_z]
          refine wpT 4 ?_
          try simp only [put_y]
          try simp only [Act.put]
          try simp only [put_z]
          refine wpT 5 ?_
          try simp only [put_y]
          try simp only [Act.put]
          try simp only [put_z]
          refine wpT 6 ?_
          try simp only [put_y]
          try simp only [Act.put]
          try simp only [put_z]
          refine wpT 7 ?_
          try simp only [put_y]
          try simp only [Act.put]
          try simp only [put_z]
          refine wpT 8 ?_
          try simp only [put_y]
          try simp only [Act.put]
          try simp only [put_z]
          refine wpT 9 ?_
          try simp only [put_y]
          try simp only [Act.put]
          try simp only [put_z]
          refine wpAnyH_ready (rs := [10]) (by kernel_rfl) (by simp) ?_
          refine AllReadyH.cons rfl (fun K hK => ?_) AllReadyH.nil
          go_simp
          refine (CR.out _ uD).mono ?_
          rintro e w5 ⟨rfl, u5⟩
          have h5 : Upd Non wr w5 := uD.then_non u5
          go_wp2_with fail
          refine hK.out _ _ ?_ (fun hHeld => ?_)
          ·
           exact ⟨cell_upd c4 h5 (fun f => f), cell_upd d4 h5 (fun f => f), cell_upd g0 h5 (fun f => f), cell_upd g1 h5 (fun f => f), cell_upd g2 h5 (fun f => f), cell_upd g3 h5 (fun f => f), cell_upd g4 h5 (fun f => f), cell_upd k0 h5 (fun f => f), cell_upd k1 h5 (fun f => f), cell_upd k2 h5 (fun f => f), cell_upd k3 h5 (fun f => f), cell_upd k4 h5 (fun f => f)⟩
          clear hK K
          try simp only [put_y]
          try simp only [Act.put]
          try simp only [put_z]
          refine wpT 11 ?_
          try simp only [put_y]
          try simp only [Act.put]
          try simp only [put_z]
          refine wpAnyH_done (by kernel_rfl) ?_ _
          go_wp2_with fail
          go_meet
          case rel => exact ⟨rfl, h5⟩
         case rest =>
          obtain ⟨rfl, hwc⟩ := hcut
          have HUC := Lib.hid (Hu.out.then_non hwc)
          have c4 := cell_upd c4 hwc (fun f => f)
          clear CR g0 g1 g2 g3 g4 k0 k1 k2 k3 k4 hwc
          cases B with
          | false =>
           have HF : Hid (res = false) := HNX.out HB.out
           go_wp2_with fail
           go_ret
           exact ⟨by rw [HF.out]; rfl, HU.out.then_non HUC.out⟩
          | true =>
           have HA2 := Lib.hid (HNY.out HB.out)
           go_wp2_with fail
           go_roundg (n - (k + 1))
           case measure => rw [Hg.out]; omega
           case rel => exact ⟨k + 1, rfl, by omega, by go_num, HA2, HUC⟩
        ·
         obtain rfl : n = k := by omega
         have HT : Hid (res = true) := by
          show _ = _
          rw [HR.out]
          exact ptEL_of fun i h1 h2 => HA.out i h1 h2 (by rw [← Hpn.out]; exact h1)
         go_wp2_with fail
         go_ret
         exact ⟨by rw [HT.out]; rfl, HU.out.then_non Hu.out⟩
      ·
       have t1 : (p.v != q.v) = false := by simpa using h1
       have t2 : (p.op != q.op) = false := by simpa using h2
       have t3 : (p.imm != q.imm) = false := by simpa using h3
       have t4 : (p.iv != q.iv) = false := by simpa using h4
       have t5 : ((pn : Int) != (qn : Int)) = true := by simpa using fun e => h5 (by omega)
       have HR : Hid (res = false) := by show _ = _; rw [HE.out, decide_eq_false (fun h => h5 h.2.2.2.2), Bool.false_and]
       clear h1 h2 h3 h4 h5
       go_enter Try.func35, Try.ntmps35
       go_wp2_with fail
       go_ret
       exact ⟨by rw [HR.out]; rfl, HU.out⟩
     ·
      have t1 : (p.v != q.v) = false := by simpa using h1
      have t2 : (p.op != q.op) = false := by simpa using h2
      have t3 : (p.imm != q.imm) = false := by simpa using h3
      have t4 : (p.iv != q.iv) = true := by simpa using h4
      have HR : Hid (res = false) := by show _ = _; rw [HE.out, decide_eq_false (fun h => h4 h.2.2.2.1), Bool.false_and]
      clear h1 h2 h3 h4
      go_enter Try.func35, Try.ntmps35
      go_wp2_with fail
      go_ret
      exact ⟨by rw [HR.out]; rfl, HU.out⟩
    ·
     have t1 : (p.v != q.v) = false := by simpa using h1
     have t2 : (p.op != q.op) = false := by simpa using h2
     have t3 : (p.imm != q.imm) = true := by simpa using h3
     have HR : Hid (res = false) := by show _ = _; rw [HE.out, decide_eq_false (fun h => h3 h.2.2.1), Bool.false_and]
     clear h1 h2 h3
     go_enter Try.func35, Try.ntmps35
     go_wp2_with fail
     go_ret
     exact ⟨by rw [HR.out]; rfl, HU.out⟩
   ·
    have t1 : (p.v != q.v) = false := by simpa using h1
    have t2 : (p.op != q.op) = true := by simpa using h2
    have HR : Hid (res = false) := by show _ = _; rw [HE.out, decide_eq_false (fun h => h2 h.2.1), Bool.false_and]
    clear h1 h2
    go_enter Try.func35, Try.ntmps35
    go_wp2_with fail
    go_ret
    exact ⟨by rw [HR.out]; rfl, HU.out⟩
  ·
   have t1 : (p.v != q.v) = true := by simpa using h1
   have HR : Hid (res = false) := by show _ = _; rw [HE.out, decide_eq_false (fun h => h1 h.1), Bool.false_and]
   clear h1
   go_enter Try.func35, Try.ntmps35
   go_wp2_with fail
   go_ret
   exact ⟨by rw [HR.out]; rfl, HU.out⟩
set_option maxRecDepth 100000 in
set_option maxHeartbeats 2000000 in
theorem samePattern_c (p : Pt) : ∀ (q : Pt) (w : World) (F G : Nat → Prop) (KA KC : Option Addr) (kc kd : Nat), PtK w F p KA kc → PtK w G q KC kd → p.size ≤ 1000000000000 →
  Calls Try.prog 61 #[pv p KA kc, pv q KC kd] w fun e w' => e = .returned (.bool (ptE p q)) ∧ Upd Non w w' := by
 induction p using Pt.ind with
 | h p ih =>
  intro q w F G KA KC kc kd hp hq hs
  have hse := Pt.size_eq p
  have hle := Pt.len_le p.kids
  have HI := Lib.hid ih
  have HE := Lib.hid (ptE_eq p q)
  obtain ⟨res, Hres⟩ := nm (ptE p q)
  rw [Hres.out] at HE ⊢
  obtain ⟨W1, HW1⟩ := nm (w.alloc (.cells #[.int .i64 p.v, .int .i64 p.op, .int .i64 p.imm, .int .i64 p.iv, .slice KA p.kids.length kc] 30))
  have u1 : Upd Non w W1 := by rw [← HW1.out]; exact Upd.refl.alloc _
  have b1 : Blk W1 w.heap.size 30 #[.int .i64 p.v, .int .i64 p.op, .int .i64 p.imm, .int .i64 p.iv, .slice KA p.kids.length kc] := by rw [← HW1.out]; exact Blk.new _ _ _
  have s1 : W1.heap.size = w.heap.size + 1 := by rw [← HW1.out]; simp
  obtain ⟨W2, HW2⟩ := nm (W1.alloc (.cells #[.int .i64 q.v, .int .i64 q.op, .int .i64 q.imm, .int .i64 q.iv, .slice KC q.kids.length kd] 30))
  have u2 : Upd Non W1 W2 := by rw [← HW2.out]; exact Upd.refl.alloc _
  have b2 : Blk W2 (w.heap.size + 1) 30 #[.int .i64 q.v, .int .i64 q.op, .int .i64 q.imm, .int .i64 q.iv, .slice KC q.kids.length kd] := by rw [← HW2.out, ← s1]; exact Blk.new _ _ _
  have b1 := b1.upd u2 (fun f => f)
  have U2 := u1.then_non u2
  have e1 := HW1.out
  have e2 := HW2.out
  have HB1 := Lib.hid b1
  have HB2 := Lib.hid b2
  have HU := Lib.hid U2
  have HP := Lib.hid (PtK.upd U2 (fun _ _ _ f => f) p KA kc hp)
  have HQ := Lib.hid (PtK.upd U2 (fun _ _ _ f => f) q KC kd hq)
  have c0 := b1.cell 0
  have c1 := b1.cell 1
  have c2 := b1.cell 2
  have c3 := b1.cell 3
  have c4 := b1.cell 4
  have d0 := b2.cell 0
  have d1 := b2.cell 1
  have d2 := b2.cell 2
  have d3 := b2.cell 3
  have d4 := b2.cell 4
  unfold pv
  clear ih hp hq u1 u2 b1 b2 U2 HW1 HW2
  have HV : Hid ((p.v != q.v) = !decide (p.v = q.v)) := by show _ = _; by_cases h : p.v = q.v <;> simp [h]
  obtain ⟨pn, Hpn⟩ := nm p.kids.length
  obtain ⟨qn, Hqn⟩ := nm q.kids.length
  rw [Hpn.out] at c4 e1 hle HE
  rw [Hqn.out] at d4 e2 HE
  rw [Hpn.out, Hqn.out]
  by_cases h1 : p.v = q.v
  ·
   by_cases h2 : p.op = q.op
   ·
    by_cases h3 : p.imm = q.imm
    ·
     by_cases h4 : p.iv = q.iv
     ·
      by_cases h5 : pn = qn
      ·
       have t1 : (p.v != q.v) = false := by simpa using h1
       have t2 : (p.op != q.op) = false := by simpa using h2
       have t3 : (p.imm != q.imm) = false := by simpa using h3
       have t4 : (p.iv != q.iv) = false := by simpa using h4
       have t5 : ((pn : Int) != (qn : Int)) = false := by simp [h5]
       have HR : Hid (res = ptEL p.kids q.kids) := by show _ = _; rw [HE.out, decide_eq_true ⟨h1, h2, h3, h4, h5⟩, Bool.true_and]
       clear h1 h2 h3 h4
       subst h5
       obtain ⟨n, rfl⟩ : ∃ m, m = pn := ⟨_, rfl⟩
       have hn12 : n ≤ 1000000000000 := by omega
       go_enter Try.func61, Try.ntmps61
       go_wp2_with fail
       clear e1 e2 c0 c1 c2 c3 d0 d1 d2 d3 t1 t2 t3 t4 t5
       go_loopg [5] n (fun g  iv wr => ∃ k : Nat, Hid (g = n - k) ∧ k ≤ n ∧ iv = .int .i64 k ∧ Hid (∀ i (h : i < p.kids.length) (h2 : i < q.kids.length), i < k → ptE p.kids[i] q.kids[i] = true) ∧ Hid (Upd Non W2 wr))
       case atStart => exact ⟨0, rfl, Nat.zero_le _, rfl, fun i _ _ h => by omega, Upd.refl⟩
       case round =>
        obtain ⟨k, Hg, hk, rfl, HA, Hu⟩ := hrel
        have c4 := cell_upd c4 Hu.out (fun f => f)
        have d4 := cell_upd d4 Hu.out (fun f => f)
        by_cases hlt : k < n
        ·
         have hkl : k < p.kids.length := by rw [Hpn.out]; exact hlt
         have hkq : k < q.kids.length := by rw [Hqn.out]; exact hlt
         obtain ⟨b, o, rfl, hF, hbw, KB, c1_, g0, g1, g2, g3, g4, g5⟩ := (PtK.upd Hu.out (fun _ _ _ f => f) p KA kc HP.out).at_ hkl
         obtain ⟨b2, o2, rfl, hG, hbw2, KZ, c2_, k0, k1, k2, k3, k4, k5⟩ := (PtK.upd Hu.out (fun _ _ _ f => f) q KC kd HQ.out).at_ hkq
         have hks : p.kids[k].size ≤ 1000000000000 := by have := Pt.kids_lt (List.getElem_mem hkl); omega
         have HNX : Hid (ptE p.kids[k] q.kids[k] = false → res = false) := fun h => by rw [HR.out]; exact ptEL_no hkl hkq h
         have HNY : Hid (ptE p.kids[k] q.kids[k] = true → ∀ i (h : i < p.kids.length) (h2 : i < q.kids.length), i < k + 1 → ptE p.kids[i] q.kids[i] = true) := fun h i h1 h2 h3 => by
          by_cases e : i = k
          ·
           subst e; exact h
          ·
           exact HA.out i h1 h2 (by omega)
         have CR := Lib.hid (fun W (u : Upd Non wr W) => HI.out _ (List.getElem_mem hkl) q.kids[k] W F G KB KZ c1_ c2_ (PtK.upd u (fun _ _ _ f => f) _ _ _ g5) (PtK.upd u (fun _ _ _ f => f) _ _ _ k5) hks)
         generalize p.kids[k] = x at *
         generalize q.kids[k] = z at *
         unfold pv at CR
         obtain ⟨B, HB⟩ := nm (ptE x z)
         rw [HB.out] at CR
         clear g5 k5 hks
         go_upto_region 6 with fail
         go_cut [59] (fun s wx => s = .bool (!B) ∧ Upd Non wr wx)
         case first =>
          obtain ⟨wD, HwD⟩ := nm wr.drew
          have uD : Upd Non wr wD := by rw [← HwD.out]; exact Upd.refl.drew
          refine wp_region_held_drew (S := fun w' => w'.cell? ⟨w.heap.size, 4, none⟩ = some (.slice (some ⟨b, o, none⟩) n kc) ∧ w'.cell? ⟨w.heap.size + 1, 4, none⟩ = some (.slice (some ⟨b2, o2, none⟩) n kd) ∧ w'.cell? ⟨b, o + k * 5, none⟩ = some (.int .i64 x.v) ∧ w'.cell? ⟨b, o + k * 5 + 1, none⟩ = some (.int .i64 x.op) ∧ w'.cell? ⟨b, o + k * 5 + 2, none⟩ = some (.int .i64 x.imm) ∧ w'.cell? ⟨b, o + k * 5 + 3, none⟩ = some (.int .i64 x.iv) ∧ w'.cell? ⟨b, o + k * 5 + 4, none⟩ = some (.slice KB x.kids.length c1_) ∧ w'.cell? ⟨b2, o2 + k * 5, none⟩ = some (.int .i64 z.v) ∧ w'.cell? ⟨b2, o2 + k * 5 + 1, none⟩ = some (.int .i64 z.op) ∧ w'.cell? ⟨b2, o2 + k * 5 + 2, none⟩ = some (.int .i64 z.imm) ∧ w'.cell? ⟨b2, o2 + k * 5 + 3, none⟩ = some (.int .i64 z.iv) ∧ w'.cell? ⟨b2, o2 + k * 5 + 4, none⟩ = some (.slice KZ z.kids.length c2_)) (by kernel_rfl) (by rw [HwD.out]; exact ⟨cell_upd c4 uD (fun f => f), cell_upd d4 uD (fun f => f), cell_upd g0 uD (fun f => f), cell_upd g1 uD (fun f => f), cell_upd g2 uD (fun f => f), cell_upd g3 uD (fun f => f), cell_upd g4 uD (fun f => f), cell_upd k0 uD (fun f => f), cell_upd k1 uD (fun f => f), cell_upd k2 uD (fun f => f), cell_upd k3 uD (fun f => f), cell_upd k4 uD (fun f => f)⟩) (fun hHeld => ?_)
          rw [HwD.out] at hHeld ⊢
          refine wpT 0 ?_
          try simp only [put_y]
          try simp only [Act.put]
          try simp only [put_z]
          refine wpT 1 ?_
          try simp only [put_y]
          try simp only [Act.put]
          try simp only [put_z]
          refine wpT 2 ?_
          try simp only [put_y]
          try simp only [Act.put]
          try simp only [put_z]
          refine wpT 3 ?_
          try simp only [put_y]
          try simp only [Act.put]
          try simp only [put_z]
          refine wpT 4 ?_
          try simp only [put_y]
          try simp only [Act.put]
          try simp only [put_z]
          refine wpT 5 ?_
          try simp only [put_y]
          try simp only [Act.put]
          try simp only [put_z]
          refine wpT 6 ?_
          try simp only [put_y]
          try simp only [Act.put]
          try simp only [put_z]
          refine wpT 7 ?_
          try simp only [put_y]
          try simp only [Act.put]
          try simp only [put_z]
          refine wpT 8 ?_
          try simp only [put_y]
          try simp only [Act.put]
          try simp only [put_z]
          refine wpT 9 ?_
          try simp only [put_y]
          try simp only [Act.put]
          try simp only [put_z]
          refine wpAnyH_ready (rs := [10]) (by kernel_rfl) (by simp) ?_
          refine AllReadyH.cons rfl (fun K hK => ?_) AllReadyH.nil
          go_simp
          refine (CR.out _ uD).mono ?_
          rintro e w5 ⟨rfl, u5⟩
          have h5 : Upd Non wr w5 := uD.then_non u5
          go_wp2_with fail
          refine hK.out _ _ ?_ (fun hHeld => ?_)
          ·
           exact ⟨cell_upd c4 h5 (fun f => f), cell_upd d4 h5 (fun f => f), cell_upd g0 h5 (fun f => f), cell_upd g1 h5 (fun f => f), cell_upd g2 h5 (fun f => f), cell_upd g3 h5 (fun f => f), cell_upd g4 h5 (fun f => f), cell_upd k0 h5 (fun f => f), cell_upd k1 h5 (fun f => f), cell_upd k2 h5 (fun f => f), cell_upd k3 h5 (fun f => f), cell_upd k4 h5 (fun f => f)⟩
          clear hK K
          try simp only [put_y]
          try simp only [Act.put]
          try simp only [put_z]
          refine wpT 11 ?_
          try simp only [put_y]
          try simp only [Act.put]
          try simp only [put_z]
          refine wpAnyH_done (by kernel_rfl) ?_ _
          go_wp2_with fail
          go_meet
          case rel => exact ⟨rfl, h5⟩
         case rest =>
          obtain ⟨rfl, hwc⟩ := hcut
          have HUC := Lib.hid (Hu.out.then_non hwc)
          have c4 := cell_upd c4 hwc (fun f => f)
          clear CR g0 g1 g2 g3 g4 k0 k1 k2 k3 k4 hwc
          cases B with
          | false =>
           have HF : Hid (res = false) := HNX.out HB.out
           go_wp2_with fail
           go_ret
           exact ⟨by rw [HF.out]; rfl, HU.out.then_non HUC.out⟩
          | true =>
           have HA2 := Lib.hid (HNY.out HB.out)
           go_wp2_with fail
           go_roundg (n - (k + 1))
           case measure => rw [Hg.out]; omega
           case rel => exact ⟨k + 1, rfl, by omega, by go_num, HA2, HUC⟩
        ·
         obtain rfl : n = k := by omega
         have HT : Hid (res = true) := by
          show _ = _
          rw [HR.out]
          exact ptEL_of fun i h1 h2 => HA.out i h1 h2 (by rw [← Hpn.out]; exact h1)
         go_wp2_with fail
         go_ret
         exact ⟨by rw [HT.out]; rfl, HU.out.then_non Hu.out⟩
      ·
       have t1 : (p.v != q.v) = false := by simpa using h1
       have t2 : (p.op != q.op) = false := by simpa using h2
       have t3 : (p.imm != q.imm) = false := by simpa using h3
       have t4 : (p.iv != q.iv) = false := by simpa using h4
       have t5 : ((pn : Int) != (qn : Int)) = true := by simpa using fun e => h5 (by omega)
       have HR : Hid (res = false) := by show _ = _; rw [HE.out, decide_eq_false (fun h => h5 h.2.2.2.2), Bool.false_and]
       clear h1 h2 h3 h4 h5
       go_enter Try.func61, Try.ntmps61
       go_wp2_with fail
       go_ret
       exact ⟨by rw [HR.out]; rfl, HU.out⟩
     ·
      have t1 : (p.v != q.v) = false := by simpa using h1
      have t2 : (p.op != q.op) = false := by simpa using h2
      have t3 : (p.imm != q.imm) = false := by simpa using h3
      have t4 : (p.iv != q.iv) = true := by simpa using h4
      have HR : Hid (res = false) := by show _ = _; rw [HE.out, decide_eq_false (fun h => h4 h.2.2.2.1), Bool.false_and]
      clear h1 h2 h3 h4
      go_enter Try.func61, Try.ntmps61
      go_wp2_with fail
      go_ret
      exact ⟨by rw [HR.out]; rfl, HU.out⟩
    ·
     have t1 : (p.v != q.v) = false := by simpa using h1
     have t2 : (p.op != q.op) = false := by simpa using h2
     have t3 : (p.imm != q.imm) = true := by simpa using h3
     have HR : Hid (res = false) := by show _ = _; rw [HE.out, decide_eq_false (fun h => h3 h.2.2.1), Bool.false_and]
     clear h1 h2 h3
     go_enter Try.func61, Try.ntmps61
     go_wp2_with fail
     go_ret
     exact ⟨by rw [HR.out]; rfl, HU.out⟩
   ·
    have t1 : (p.v != q.v) = false := by simpa using h1
    have t2 : (p.op != q.op) = true := by simpa using h2
    have HR : Hid (res = false) := by show _ = _; rw [HE.out, decide_eq_false (fun h => h2 h.2.1), Bool.false_and]
    clear h1 h2
    go_enter Try.func61, Try.ntmps61
    go_wp2_with fail
    go_ret
    exact ⟨by rw [HR.out]; rfl, HU.out⟩
  ·
   have t1 : (p.v != q.v) = true := by simpa using h1
   have HR : Hid (res = false) := by show _ = _; rw [HE.out, decide_eq_false (fun h => h1 h.1), Bool.false_and]
   clear h1
   go_enter Try.func61, Try.ntmps61
   go_wp2_with fail
   go_ret
   exact ⟨by rw [HR.out]; rfl, HU.out⟩
end Go.Proofs.Ytblkgjdhaibhgaa
