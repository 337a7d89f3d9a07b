/-
  Lemmas and walks that the claim rests on, part 10 (packed by a program).
-/
import Derived.Test.YtblkgjdhaibhgaaZ7
import Derived.Test.YtblkgjdhaibhgaaZ9
import Derived.Test.YtblkgjdhaibhgaaZ8
import Derived.Test.YtblkgjdhaibhgaaZ4
import Derived.Test.YtblkgjdhaibhgaaZ6
import Derived.Test.YtblkgjdhaibhgaaZ5
namespace Go.Proofs.Ytblkgjdhaibhgaa
open Go.RowKit
def hdF (r : Rl) : Bs := [114, 117, 108, 101, 32] ++ kx r.name ++ [58, 32] ++ fmtF r.l ++ [32, 61, 62, 32] ++ fmtF r.r
theorem fmtR_hd (r : Rl) : fmtR r = hdF r ++ fmtCs r.conds true ++ [59, 10] := rfl
theorem hd_eq (r : Rl) : kx ((((({ data := #[114, 117, 108, 101, 32] } : ByteArray) ++ r.name) ++ { data := #[58, 32] }) ++ kstr (fmtF r.l)) ++ { data := #[32, 61, 62, 32] } ++ kstr (fmtF r.r)) = hdF r := by
 simp [kx, kstr, hdF]
theorem hdF_len {r : Rl} (h : FmR r) : (hdF r).length ≤ 1600 := by
 have e1 := fmtF_len _ h.l
 have e2 := fmtF_len _ h.r
 have e5 := h.ls
 have e6 := h.rs
 have e7 : (kx r.name).length ≤ 16 := by rw [kx_len]; exact h.n
 unfold hdF
 simp only [List.length_append, List.length_cons, List.length_nil]
 omega
set_option maxRecDepth 100000 in
set_option maxHeartbeats 2000000 in
theorem rPrint_c (w : World) (F : Nat → Prop) (A : Option Addr) (c : Nat) (L : List Rl) (hv : RlsV w F A L) (hz : ∀ r ∈ L, RlSz r) (hi : ∀ r ∈ L, RlI r) (hn : L.length ≤ 1000000) :
  Calls Try.prog 8 #[.slice A L.length c] w fun e w' => e = .returned (.string (kstr (printF L))) ∧ Upd Non w w' := by
 have HV := Lib.hid hv
 have HZ := Lib.hid hz
 have HI := Lib.hid hi
 obtain ⟨res, Hres⟩ := nm (kstr (printF L))
 rw [Hres.out]
 obtain ⟨n, Hn⟩ := nm L.length
 rw [Hn.out] at hn ⊢
 clear hv hz hi
 go_enter Try.func8, Try.ntmps8
 go_wp2_with fail
 go_loopg [3, 5, 6, 7, 8, 11] n (fun g v _ _ _ _ iv wr => ∃ (k : Nat) (BA : Option Addr) (bc : Nat) (bs : Bs), Hid (g = n - k) ∧ k ≤ n ∧ iv = .int .i64 k ∧ v = .slice BA bs.length bc ∧ Hid (Own wr 5 1 BA bs.length bc (u8s bs)) ∧ Hid (∀ q, At BA q → w.heap.size ≤ q) ∧ Hid (bs = fmtRs (L.take k)) ∧ bs.length ≤ 2000 * k ∧ Hid (∀ r ∈ L.take k, implF r = true) ∧ Hid (Upd Non w wr))
 case atStart => exact ⟨0, none, 0, [], rfl, Nat.zero_le _, rfl, rfl, Own.none_, fun _ q => (At.none_ q).elim, rfl, by simp, fun r hr => by simp at hr, Upd.refl⟩
 case round =>
  obtain ⟨k, BA, bc, bs, Hg, hk, rfl, rfl, HO, HA, HB, hbl, HI2, HU⟩ := hrel
  by_cases hlt : k < n
  ·
   have hkl : k < L.length := by rw [Hn.out]; exact hlt
   obtain ⟨b, o, a, rfl, _, hbw0, hat0, hrk0⟩ := HV.out.at_ hkl
   have hbw : b < wr.heap.size := Nat.lt_of_lt_of_le hbw0 HU.out.size
   have hat := hat0.upd HU.out (fun f => f)
   have hrk := hrk0.upd HU.out (fun _ _ _ f => f)
   have HRW := Lib.hid hrk0
   clear hat0 hrk0 hbw0
   unfold RlAt at hat
   have HRZ := Lib.hid (HZ.out _ (List.getElem_mem hkl))
   have HRI := Lib.hid (HI.out _ (List.getElem_mem hkl))
   have HTK : Hid (L.take (k + 1) = L.take k ++ [L[k]]) := take_snoc' hkl
   have HME : Hid (L[k] ∈ L) := List.getElem_mem hkl
   generalize L[k] = r at *
   obtain ⟨x0, x1, x2, x3, x4, x5, x6, x7, x8, x9, x10, x11, x12, x13⟩ := hat
   have CV := Lib.hid (rlValid_c r a F _ (hrk.upd (Upd.refl.alloc (S := Non) (.cells (rlCells r a) 33)) (fun _ _ _ f => f)) HRZ.out)
   have hb3 := Blk.new wr 33 (rlCells r a)
   have HB3 := Lib.hid hb3
   have HRK := Lib.hid hrk
   unfold rlv rlCells at CV
   obtain ⟨v, Hv⟩ := nm (implF r)
   rw [Hv.out] at CV
   clear hb3 hrk
   go_wp2_with fail
   refine CV.out.mono ?_
   rintro e w4 ⟨rfl, hu4⟩
   clear CV x0 x1 x2 x3 x4 x5 x6 x7 x8 x9 x10 x11 x12 x13
   have HU4 := Lib.hid ((HU.out.alloc (.cells (rlCells r a) 33)).then_non hu4)
   have HB4 := Lib.hid (HB3.out.upd hu4 (fun f => f))
   have u34 : Upd Non wr w4 := (Upd.refl.alloc (S := Non) (.cells (rlCells r a) 33)).then_non hu4
   have HO4 := Lib.hid (Own.upd HO.out u34 (fun _ _ f => f))
   have HRK4 := Lib.hid (HRK.out.upd u34 (fun _ _ _ f => f))
   clear HO HB3 HRK hu4 u34
   cases v with
   | false =>
    go_wp2_with fail
    go_ret
    refine ⟨?_, HU4.out⟩
    rw [← Hres.out, show printF L = [] from if_neg (fun q => by have := List.all_eq_true.1 q r HME.out; rw [Hv.out] at this; cases this)]
    rfl
   | true =>
    have HF := Lib.hid (impl_fm Hv.out HRI.out)
    have hnl : r.name.size ≤ 16 := HF.out.n
    have hlz : r.l.size ≤ 24 := HF.out.ls
    have hrz : r.r.size ≤ 24 := HF.out.rs
    have hl1 : (kstr (fmtF r.l)).size ≤ 720 := ksz (by have := fmtF_len _ HF.out.l; omega)
    have hl2 : (kstr (fmtF r.r)).size ≤ 720 := ksz (by have := fmtF_len _ HF.out.r; omega)
    have CL := Lib.hid (fun W (u : Upd Non w4 W) => rFormat_c r.l W F a.la a.lc (PtK.upd u (fun _ _ _ f => f) _ _ _ HRK4.out.l) HF.out.l (by omega))
    have CR := Lib.hid (fun W (u : Upd Non w4 W) => rFormat_c r.r W F a.ra a.rc (PtK.upd u (fun _ _ _ f => f) _ _ _ HRK4.out.r) HF.out.r (by omega))
    have HE := Lib.hid (hd_eq r)
    have hsz : (hdF r).length ≤ 1600 := hdF_len HF.out
    obtain ⟨f1, Hf1⟩ := nm (kstr (fmtF r.l))
    obtain ⟨f2, Hf2⟩ := nm (kstr (fmtF r.r))
    rw [Hf1.out] at CL HE hl1
    rw [Hf2.out] at CR HE hl2
    unfold pv at CL CR
    have HAO := HA
    go_upto_region 7 with fail
    go_cut [3] (fun v wx => ∃ (BB : Option Addr) (bb : Nat) (bs2 : Bs), v = .slice BB bs2.length bb ∧ Hid (Own wx 5 1 BB bs2.length bb (u8s bs2)) ∧ Hid (∀ q, At BB q → w.heap.size ≤ q) ∧ Hid (bs2 = bs ++ hdF r) ∧ Hid (Upd (At BA) w4 wx))
    case first =>
     obtain ⟨wD, HwD⟩ := nm w4.drew
     have uD : Upd Non w4 wD := by rw [← HwD.out]; exact Upd.refl.drew
     have hbD := HB4.out.upd uD (fun f => f)
     unfold rlCells at hbD
     have hq1 : ¬ (9223372036854775807 < 5 + r.name.size) := by omega
     have hq2 : ¬ (9223372036854775807 < 5 + r.name.size + 2) := by omega
     have hq3 : ¬ (9223372036854775807 < 5 + r.name.size + 2 + f1.size) := by omega
     have hq4 : ¬ (9223372036854775807 < 5 + r.name.size + 2 + f1.size + 4) := by omega
     have hq5 : ¬ (9223372036854775807 < 5 + r.name.size + 2 + f1.size + 4 + f2.size) := by omega
     refine wp_region_held_drew (S := fun w' => w'.cell? ⟨wr.heap.size, 0, none⟩ = some (.string r.name) ∧ w'.cell? ⟨wr.heap.size, 1, none⟩ = some (.int .i64 r.l.v) ∧ w'.cell? ⟨wr.heap.size, 2, none⟩ = some (.int .i64 r.l.op) ∧ w'.cell? ⟨wr.heap.size, 3, none⟩ = some (.int .i64 r.l.imm) ∧ w'.cell? ⟨wr.heap.size, 4, none⟩ = some (.int .i64 r.l.iv) ∧ w'.cell? ⟨wr.heap.size, 5, none⟩ = some (.slice a.la r.l.kids.length a.lc) ∧ w'.cell? ⟨wr.heap.size, 6, none⟩ = some (.int .i64 r.r.v) ∧ w'.cell? ⟨wr.heap.size, 7, none⟩ = some (.int .i64 r.r.op) ∧ w'.cell? ⟨wr.heap.size, 8, none⟩ = some (.int .i64 r.r.imm) ∧ w'.cell? ⟨wr.heap.size, 9, none⟩ = some (.int .i64 r.r.iv) ∧ w'.cell? ⟨wr.heap.size, 10, none⟩ = some (.slice a.ra r.r.kids.length a.rc)) (by kernel_rfl) (by rw [HwD.out]; exact ⟨hbD.cell 0, hbD.cell 1, hbD.cell 2, hbD.cell 3, hbD.cell 4, hbD.cell 5, hbD.cell 6, hbD.cell 7, hbD.cell 8, hbD.cell 9, hbD.cell 10⟩) (fun hHeld => ?_)
     rw [HwD.out] at hHeld ⊢
     refine wpT 0 ?_
     try simp only [put_y]
     try simp only [Act.put]
     try simp only [put_z]
     refine wpT 1 ?_
     try simp only [put_y]
     try simp only [Act.put]
     try simp only [put_z]
     refine wpT 2 ?_
     try simp only [put_y]
     try simp only [Act.put]
     try simp only [put_z]
     refine wpT 3 ?_
     try simp only [put_y]
     try simp only [Act.put]
     try simp only [put_z]
     refine wpT 4 ?_
     try simp only [put_y]
     try simp only [Act.put]
     try simp only [put_z]
     refine wpT 5 ?_
     try simp only [put_y]
     try simp only [Act.put]
     try simp only [put_z]
     refine wpT 6 ?_
     try simp only [put_y]
     try simp only [Act.put]
     try simp only [put_z]
     refine wpT 10 ?_
     try simp only [put_y]
     try simp only [Act.put]
     try simp only [put_z]
     refine wpT 11 ?_
     try simp only [put_y]
     try simp only [Act.put]
     try simp only [put_z]
     refine wpAnyH_ready (rs := [7]) (by kernel_rfl) (by simp) ?_
     refine AllReadyH.cons rfl (fun K hK => ?_) AllReadyH.nil
     go_simp
     refine (CL.out _ uD).mono ?_
     rintro e w5 ⟨rfl, u5⟩
     have h5 : Upd Non w4 w5 := uD.then_non u5
     have hb5 := HB4.out.upd h5 (fun f => f)
     unfold rlCells at hb5
     go_wp2_with fail
     refine hK.out _ _ ?_ (fun hHeld => ?_)
     ·
      exact ⟨hb5.cell 0, hb5.cell 1, hb5.cell 2, hb5.cell 3, hb5.cell 4, hb5.cell 5, hb5.cell 6, hb5.cell 7, hb5.cell 8, hb5.cell 9, hb5.cell 10⟩
     clear hK K
     try simp only [put_y]
     try simp only [Act.put]
     try simp only [put_z]
     refine wpT 8 ?_
     try simp only [put_y]
     try simp only [Act.put]
     try simp only [put_z]
     refine wpT 9 ?_
     try simp only [put_y]
     try simp only [Act.put]
     try simp only [put_z]
     refine wpAnyH_ready (rs := [12]) (by kernel_rfl) (by simp) ?_
     refine AllReadyH.cons rfl (fun K hK => ?_) AllReadyH.nil
     go_simp
     refine (CR.out _ h5).mono ?_
     rintro e w6 ⟨rfl, u6⟩
     have h6 : Upd Non w4 w6 := h5.then_non u6
     have hb6 := HB4.out.upd h6 (fun f => f)
     unfold rlCells at hb6
     go_wp2_with fail
     refine hK.out _ _ ?_ (fun hHeld => ?_)
     ·
      exact ⟨hb6.cell 0, hb6.cell 1, hb6.cell 2, hb6.cell 3, hb6.cell 4, hb6.cell 5, hb6.cell 6, hb6.cell 7, hb6.cell 8, hb6.cell 9, hb6.cell 10⟩
     clear hK K
     try simp only [put_y]
     try simp only [Act.put]
     try simp only [put_z]
     refine wpT 13 ?_
     try simp only [put_y]
     try simp only [Act.put]
     try simp only [put_z]
     refine wpAnyH_ready (rs := [14]) (by kernel_rfl) (by simp) ?_
     refine AllReadyH.cons rfl (fun K hK => ?_) AllReadyH.nil
     have ho6 := Own.upd HO4.out h6 (fun _ _ f => f)
     have hs6 := h6.size
     have hU6 := HU4.out.size
     have hsq : ((((({ data := #[114, 117, 108, 101, 32] } : ByteArray) ++ r.name) ++ { data := #[58, 32] }) ++ f1) ++ { data := #[32, 61, 62, 32] } ++ f2).size ≤ 1600 := by rw [← kx_len, HE.out]; exact hsz
     refine step_apps rfl rfl rfl ho6 HA.out (by omega) rfl (by omega) ?_
     intro BB bb w7 ho7 hu7 hat7
     rw [HE.out] at ho7
     have h7 : Upd (At BA) w4 w7 := (h6.mono (fun _ _ f => f.elim)).trans hu7 (fun _ _ q => q)
     have hne : ¬ At BA wr.heap.size := Own.ne_blk ho6 hb6 (by decide)
     have hb7 := hb6.upd hu7 hne
     refine hK.out _ _ ?_ (fun hHeld => ?_)
     ·
      exact ⟨hb7.cell 0, hb7.cell 1, hb7.cell 2, hb7.cell 3, hb7.cell 4, hb7.cell 5, hb7.cell 6, hb7.cell 7, hb7.cell 8, hb7.cell 9, hb7.cell 10⟩
     clear hK K
     try simp only [put_y]
     try simp only [Act.put]
     try simp only [put_z]
     refine wpT 15 ?_
     try simp only [put_y]
     try simp only [Act.put]
     try simp only [put_z]
     refine wpAnyH_done (by kernel_rfl) ?_ _
     have HLE : Hid ((((((({ data := #[114, 117, 108, 101, 32] } : ByteArray) ++ r.name) ++ { data := #[58, 32] }) ++ f1) ++ { data := #[32, 61, 62, 32] } ++ f2).size = (hdF r).length)) := by show _ = _; rw [← kx_len, HE.out]
     have HLS : Hid (5 + r.name.size + 2 + f1.size + 4 + f2.size = (hdF r).length) := by
      show _ = _
      rw [← HLE.out]
      simp only [ByteArray.size_append', ByteArray.size_mk']
      rfl
     have HO7 := Lib.hid ho7
     have HU7 := Lib.hid h7
     have HA7 := Lib.hid hat7
     clear ho7 hu7 hat7 h7 hb7 hb6 hb5 hbD ho6 h6 h5 uD hq1 hq2 hq3 hq4 hq5
     go_wp2_with fail
     go_meet
     case rel =>
      refine ⟨BB, bb, bs ++ hdF r, ?_, ?_, HA7, rfl, HU7⟩
      ·
       rw [List.length_append, ← HLS.out]
      ·
       show Own _ _ _ _ _ _ _
       have := HO7.out
       rw [HLE.out] at this
       rw [List.length_append]
       exact this
    case rest =>
     clear CL CR HE hl1 hl2
     obtain ⟨BB, bb, bs2, rfl, HO, HA, HBS, HUC⟩ := hcut
     have hne : ¬ At BA wr.heap.size := Own.ne_blk HO4.out HB4.out (by decide)
     have hbc := HB4.out.upd HUC.out hne
     unfold rlCells at hbc
     have c11 := hbc.cell 11
     have hwlt : w.heap.size ≤ wr.heap.size := HU.out.size
     have HUW : Hid (Upd Non w wc) := HU4.out.trans HUC.out (fun q hq e => by have := HAO.out q e; omega)
     obtain ⟨m, Hm⟩ := nm r.conds.length
     obtain ⟨ca, Hca⟩ := nm a.ca
     rw [Hm.out, Hca.out] at c11
     have hm6 : m ≤ 6 := by rw [← Hm.out]; exact HF.out.few
     have hb2l : bs2.length ≤ 2000 * k + 1600 := by rw [HBS.out, List.length_append]; omega
     clear hbc
     go_wp2_with fail
     go_loopg [3, 6, 7, 8, 36] m (fun g v _ _ _ iv wq => ∃ (q : Nat) (BB : Option Addr) (bb : Nat) (b3 : Bs), Hid (g = m - q) ∧ q ≤ m ∧ iv = .int .i64 q ∧ v = .slice BB b3.length bb ∧ Hid (Own wq 5 1 BB b3.length bb (u8s b3)) ∧ Hid (∀ q, At BB q → w.heap.size ≤ q) ∧ Hid (b3 = bs2 ++ fmtCs (r.conds.take q) true) ∧ b3.length ≤ bs2.length + 50 * q ∧ Hid (Upd Non w wq))
     case atStart => exact ⟨0, BB, bb, bs2, rfl, Nat.zero_le _, rfl, rfl, HO, HA, by show _ = _; simp [fmtCs], by omega, HUW⟩
     case round =>
      clear HO HA HUC HUW hne c11
      obtain ⟨q, BB, bb, b3, Hgq, hq, rfl, rfl, HO, HA, HB3, hb3l, HUQ⟩ := hrel
      by_cases hqt : q < m
      ·
       have hql : q < r.conds.length := by rw [Hm.out]; exact hqt
       have htk := (HRW.out.c.upd HUQ.out (fun _ _ _ f => f)).take hql
       rw [Hca.out] at htk
       obtain ⟨b', o', rfl, hbw', y0, y1, y2, y3⟩ := htk
       have HCF := Lib.hid (HF.out.c _ (List.getElem_mem hql))
       have HTC : Hid (r.conds.take (q + 1) = r.conds.take q ++ [r.conds[q]]) := take_snoc' hql
       generalize r.conds[q] = cd at *
       have CFC := Lib.hid (rFormatCond_c cd HCF.out (wr.alloc (.cells #[.int .i64 cd.kind, .int .i64 cd.a, .int .i64 cd.b, .int .i64 cd.n] 66)))
       have hzc : (kstr (fmtC cd)).size ≤ 40 := ksz (fmtC_len HCF.out)
       have HKC : Hid (kx (kstr (fmtC cd)) = fmtC cd) := kx_kstr _
       obtain ⟨fc, Hfc⟩ := nm (kstr (fmtC cd))
       rw [Hfc.out] at CFC hzc HKC
       by_cases hq0 : q = 0
       ·
        have tq : ((q : Int) == 0) = true := by simp; omega
        have HE : Hid (kx (({ data := #[32, 105, 102, 32] } : ByteArray) ++ fc) = (if true && (r.conds.take q).isEmpty then [32, 105, 102, 32] else [44, 32]) ++ fmtC cd) := by
         show _ = _
         rw [show (true && (r.conds.take q).isEmpty) = true by rw [hq0]; rfl, if_pos rfl]
         rw [← HKC.out]
         simp [kx]
        have hsz : (({ data := #[32, 105, 102, 32] } : ByteArray) ++ fc).size ≤ 44 := by rw [ByteArray.size_append']; show 4 + fc.size ≤ 44; omega
        clear hq0
        have hsl : w.heap.size ≤ wr.heap.size := HUQ.out.size
        go_wp2_with fail
        refine CFC.out.mono ?_
        rintro e w8 ⟨rfl, hu8⟩
        have ua : Upd Non wr w8 := (Upd.refl.alloc (S := Non) (.cells #[.int .i64 cd.kind, .int .i64 cd.a, .int .i64 cd.b, .int .i64 cd.n] 66)).then_non hu8
        have hsl8 : w.heap.size ≤ w8.heap.size := Nat.le_trans hsl ua.size
        have ho8 := Own.upd HO.out ua (fun _ _ f => f)
        clear CFC hu8 y0 y1 y2 y3
        go_wp2_with (at_builtin; refine wpList_apps rfl rfl rfl ho8 HA.out hsl8 rfl (by omega) ?_; intro B4 b4 w9 ho9 hu9 hat9)
        rw [HE.out] at ho9
        have HU9 : Hid (Upd Non w w9) := (HUQ.out.then_non ua).trans hu9 (fun j hj e => by have := HA.out j e; omega)
        have HLN : Hid ((({ data := #[32, 105, 102, 32] } : ByteArray) ++ fc).size = ((if true && (r.conds.take q).isEmpty then [32, 105, 102, 32] else [44, 32]) ++ fmtC cd).length) := by show _ = _; rw [← HE.out, kx_len]
        have HLM : Hid (4 + fc.size = ((if true && (r.conds.take q).isEmpty then [32, 105, 102, 32] else [44, 32]) ++ fmtC cd).length) := by
         show _ = _
         rw [← HLN.out, ByteArray.size_append']
         rfl
        have hs44 : 4 + fc.size ≤ 44 := by omega
        rw [HLN.out] at ho9
        have HO9 := Lib.hid ho9
        have HA9 := Lib.hid hat9
        clear ho9 hu9 hat9 ho8 ua hsz
        go_roundg (m - (q + 1))
        case measure => rw [Hgq.out]; omega
        case rel =>
         refine ⟨q + 1, B4, b4, b3 ++ ((if true && (r.conds.take q).isEmpty then [32, 105, 102, 32] else [44, 32]) ++ fmtC cd), rfl, by omega, by go_num, by rw [List.length_append, ← HLM.out], ?_, HA9.out, ?_, ?_, HU9⟩
         ·
          show Own _ _ _ _ _ _ _
          rw [List.length_append]
          exact HO9.out
         ·
          show _ = _
          rw [HTC.out, fmtCs_snoc, HB3.out, List.append_assoc]
         ·
          rw [List.length_append, ← HLM.out]
          omega
       ·
        have tq : ((q : Int) == 0) = false := by simp; omega
        have HE : Hid (kx (({ data := #[44, 32] } : ByteArray) ++ fc) = (if true && (r.conds.take q).isEmpty then [32, 105, 102, 32] else [44, 32]) ++ fmtC cd) := by
         show _ = _
         rw [show (true && (r.conds.take q).isEmpty) = false by rw [Bool.true_and, List.isEmpty_eq_false_iff]; intro ht; have := congrArg List.length ht; rw [List.length_take] at this; simp only [List.length_nil] at this; omega, if_neg (by decide)]
         rw [← HKC.out]
         simp [kx]
        have hsz : (({ data := #[44, 32] } : ByteArray) ++ fc).size ≤ 44 := by rw [ByteArray.size_append']; show 2 + fc.size ≤ 44; omega
        clear hq0
        have hsl : w.heap.size ≤ wr.heap.size := HUQ.out.size
        go_wp2_with fail
        refine CFC.out.mono ?_
        rintro e w8 ⟨rfl, hu8⟩
        have ua : Upd Non wr w8 := (Upd.refl.alloc (S := Non) (.cells #[.int .i64 cd.kind, .int .i64 cd.a, .int .i64 cd.b, .int .i64 cd.n] 66)).then_non hu8
        have hsl8 : w.heap.size ≤ w8.heap.size := Nat.le_trans hsl ua.size
        have ho8 := Own.upd HO.out ua (fun _ _ f => f)
        clear CFC hu8 y0 y1 y2 y3
        go_wp2_with (at_builtin; refine wpList_apps rfl rfl rfl ho8 HA.out hsl8 rfl (by omega) ?_; intro B4 b4 w9 ho9 hu9 hat9)
        rw [HE.out] at ho9
        have HU9 : Hid (Upd Non w w9) := (HUQ.out.then_non ua).trans hu9 (fun j hj e => by have := HA.out j e; omega)
        have HLN : Hid ((({ data := #[44, 32] } : ByteArray) ++ fc).size = ((if true && (r.conds.take q).isEmpty then [32, 105, 102, 32] else [44, 32]) ++ fmtC cd).length) := by show _ = _; rw [← HE.out, kx_len]
        have HLM : Hid (2 + fc.size = ((if true && (r.conds.take q).isEmpty then [32, 105, 102, 32] else [44, 32]) ++ fmtC cd).length) := by
         show _ = _
         rw [← HLN.out, ByteArray.size_append']
         rfl
        have hs44 : 2 + fc.size ≤ 44 := by omega
        rw [HLN.out] at ho9
        have HO9 := Lib.hid ho9
        have HA9 := Lib.hid hat9
        clear ho9 hu9 hat9 ho8 ua hsz
        go_roundg (m - (q + 1))
        case measure => rw [Hgq.out]; omega
        case rel =>
         refine ⟨q + 1, B4, b4, b3 ++ ((if true && (r.conds.take q).isEmpty then [32, 105, 102, 32] else [44, 32]) ++ fmtC cd), rfl, by omega, by go_num, by rw [List.length_append, ← HLM.out], ?_, HA9.out, ?_, ?_, HU9⟩
         ·
          show Own _ _ _ _ _ _ _
          rw [List.length_append]
          exact HO9.out
         ·
          show _ = _
          rw [HTC.out, fmtCs_snoc, HB3.out, List.append_assoc]
         ·
          rw [List.length_append, ← HLM.out]
          omega
      ·
       obtain rfl : m = q := by omega
       have hsl : w.heap.size ≤ wr.heap.size := HUQ.out.size
       have HZE : Hid (kx ({ data := #[59, 10] } : ByteArray) = [59, 10]) := rfl
       have hsz2 : ({ data := #[59, 10] } : ByteArray).size = 2 := rfl
       go_wp2_with (at_builtin; refine wpList_apps rfl rfl rfl HO.out HA.out hsl rfl (by omega) ?_; intro B4 b4 w9 ho9 hu9 hat9)
       have HT : Hid (b3 ++ [59, 10] = fmtRs (L.take (k + 1))) := by
        show _ = _
        rw [HTK.out, fmtRs_snoc, fmtR_hd, HB3.out, HBS.out, HB.out, ← Hm.out, List.take_length]
        simp
       have HIA : Hid (∀ x ∈ L.take (k + 1), implF x = true) := fun x hx => by
        rw [HTK.out] at hx
        rcases List.mem_append.1 hx with hx | hx
        ·
         exact HI2.out x hx
        ·
         rw [List.mem_singleton] at hx; subst hx; exact Hv.out
       have HU9 : Hid (Upd Non w w9) := HUQ.out.trans hu9 (fun j hj e => by have := HA.out j e; omega)
       rw [HZE.out, HT.out] at ho9
       have HO9 := Lib.hid ho9
       have HA9 := Lib.hid hat9
       clear ho9 hu9 hat9
       go_roundg (n - (k + 1))
       case measure => rw [Hg.out]; omega
       case rel =>
        have hlen : b3.length + 2 = (fmtRs (L.take (k + 1))).length := by rw [← HT.out]; simp
        refine ⟨k + 1, B4, b4, fmtRs (L.take (k + 1)), rfl, by omega, by go_num, by rw [← hlen], ?_, HA9.out, rfl, ?_, HIA, HU9⟩
        ·
         show Own _ _ _ _ _ _ _
         rw [← hlen]
         exact HO9.out
        ·
         have := fmtRs_len (L := L.take (k + 1)) (fun x hx => impl_fm (HIA.out x hx) (HI.out x (List.mem_of_mem_take hx)))
         rw [List.length_take] at this
         omega
  ·
   obtain rfl : n = k := by omega
   have hcv := conv_own HO.out rfl
   have HE : Hid (kstr bs = res) := by
    show _ = _
    rw [← Hres.out, HB.out]
    unfold printF
    have h1 := HI2.out
    rw [← Hn.out, List.take_length] at h1 ⊢
    rw [if_pos (List.all_eq_true.2 h1)]
   rw [HE.out] at hcv
   go_wp2_with fail
   go_ret
   exact ⟨rfl, HU.out⟩
end Go.Proofs.Ytblkgjdhaibhgaa
namespace Go.Proofs.Ytblkgjdhaibhgaa
open Go.RowKit
theorem rParse_all (s : ByteArray) (w : World) : Calls Try.prog 7 #[.string s] w (ParseP (parseF (kx s)) w) :=
 rParse_c axiomF axiomF_sz s (fun _ q w => rAxiom_c q w) w
def nmCs (l : List (Bs × Bs)) : List Value := l.map fun x => .string (kstr x.1)
theorem nmCs_snoc (l : List (Bs × Bs)) (x : Bs × Bs) : nmCs (l ++ [x]) = nmCs l ++ [.string (kstr x.1)] := by simp [nmCs]
theorem T_strs : SlT Try.prog 35 9 1 16 := by
 obtain ⟨i, h1, h2, h3, h4⟩ := info_parts (show (Try.prog.info? 9).map (fun i => (i.zero, i.size, i.bytes)) = some (some (.string ⟨#[]⟩), 1, 16) from by kernel_rfl)
 exact ⟨Try.underlying35, ⟨i, _, h1, h2, h3, h4, rfl⟩, by omega⟩
set_option maxRecDepth 100000 in
set_option maxHeartbeats 1000000 in
theorem rAxioms_c (w : World) : Calls Try.prog 9 #[] w fun e w' => ∃ (A : Option Addr) (c : Nat), e = .returned (.slice A 22 c) ∧ Own w' 9 1 A 22 c (nmCs axL) ∧ (∀ k, At A k → w.heap.size ≤ k) ∧ Upd Non w w' := by
 have CA := Lib.hid (raxioms_c w)
 go_enter Try.func9, Try.ntmps9
 go_wp2_with fail
 refine CA.out.mono ?_
 rintro e w2 ⟨rfl, hbt, hu2⟩
 have HT := Lib.hid hbt
 have HU2 := Lib.hid hu2
 have hs2 := hu2.size
 clear hbt hu2 CA
 go_wp2_with fail
 go_loopg [1, 3, 6] 22 (fun g v _ iv wr => ∃ (j : Nat) (A : Option Addr) (c : Nat), Hid (g = 22 - j) ∧ j ≤ 22 ∧ iv = .int .i64 j ∧ v = .slice A j c ∧ Hid (Own wr 9 1 A j c (nmCs (axL.take j))) ∧ Hid (∀ k, At A k → w2.heap.size ≤ k) ∧ Hid (Upd Non w2 wr))
 case atStart => exact ⟨0, none, 0, rfl, Nat.zero_le _, rfl, rfl, Own.none_, fun _ q => (At.none_ q).elim, Upd.refl⟩
 case round =>
  obtain ⟨j, A, c, Hg, hj, rfl, rfl, HO, HA, HU⟩ := hrel
  have hb := HT.out.upd HU.out (fun f => f)
  by_cases hlt : j < 22
  ·
   have hal : j < axL.length := hlt
   obtain ⟨k0, k1⟩ := axCs_get hal
   have c0 : wr.cell? ⟨w.heap.size, j * 2, none⟩ = some (.string (kstr axL[j].1)) := by rw [hb.cell]; simpa using k0
   have c1 : wr.cell? ⟨w.heap.size, j * 2 + 1, none⟩ = some (.string (kstr axL[j].2)) := by rw [hb.cell]; simpa using k1
   have HTK : Hid (axL.take (j + 1) = axL.take j ++ [axL[j]]) := take_snoc' hal
   generalize axL[j] = xx at *
   obtain ⟨qa, Hqa⟩ := nm (kstr xx.1)
   obtain ⟨qb, Hqb⟩ := nm (kstr xx.2)
   rw [Hqa.out] at c0
   rw [Hqb.out] at c1
   have hsl := HU.out.size
   obtain ⟨W3, HW3⟩ := nm (wr.alloc (.cells #[.string qa, .string qb] 49))
   have e3 := HW3.out
   have u3 : Upd Non wr W3 := by rw [← e3]; exact Upd.refl.alloc _
   have b3 : Blk W3 wr.heap.size 49 #[.string qa, .string qb] := by rw [← e3]; exact Blk.new _ _ _
   have z0 := b3.cell 0
   have hs3 := u3.size
   have hoA := Own.upd HO.out u3 (fun _ _ f => f)
   have HU3 := Lib.hid (HU.out.then_non u3)
   clear k0 k1 hb b3 u3
   go_wp2_with (at_builtin; refine wpList_app rfl rfl T_strs rfl (hoA.alloc _) rfl (Sl.new _ _ _) rfl (by simp [Value.oneCell']) (by simp only [maxLen]; omega) (by omega) ?_; intro A4 c4 w4 ho4 hu4 hat4)
   have HU4 : Hid (Upd Non w2 w4) := (HU3.out.alloc _).trans hu4 (fun k hk e => by have := HA.out k e; omega)
   have HA4 : Hid (∀ k, At A4 k → w2.heap.size ≤ k) := fun k hk => by
    rcases hat4 k hk with q | q
    ·
     exact HA.out k q
    ·
     simp at q; omega
   have HO4 : Hid (Own w4 9 1 A4 (j + 1) c4 (nmCs (axL.take (j + 1)))) := by
    show Own _ _ _ _ _ _ _
    rw [HTK.out, nmCs_snoc, Hqa.out]
    exact ho4
   clear ho4 hu4 hat4 hoA
   go_roundg (22 - (j + 1))
   case measure => rw [Hg.out]; omega
   case rel => exact ⟨j + 1, A4, c4, rfl, by omega, by go_num, rfl, HO4.out, HA4.out, HU4.out⟩
  ·
   obtain rfl : j = 22 := by omega
   clear hb
   have hO := HO.out
   rw [List.take_of_length_le (show axL.length ≤ 22 from Nat.le_refl _)] at hO
   have HO2 := Lib.hid hO
   clear hO
   go_wp2_with fail
   go_ret
   exact ⟨A, c, rfl, HO2.out, fun k hk => by have := HA.out k hk; omega, HU2.out.then_non HU.out⟩
end Go.Proofs.Ytblkgjdhaibhgaa
namespace Go.Proofs.Ytblkgjdhaibhgaa
open Go.RowKit
def riB (r : Rl) : Bool := (nodes r.l).all (fun q => decide (-9223372036854775808 ≤ q.imm ∧ q.imm ≤ 9223372036854775807)) && (nodes r.r).all (fun q => decide (-9223372036854775808 ≤ q.imm ∧ q.imm ≤ 9223372036854775807)) && r.conds.all (fun c => decide (-9223372036854775808 ≤ c.n ∧ c.n ≤ 9223372036854775807))
theorem riB_ok {r : Rl} (h : riB r = true) : RlI r := by
 simp only [riB, Bool.and_eq_true, List.all_eq_true, decide_eq_true_eq] at h
 exact ⟨fun q hq => h.1.1 q hq, fun q hq => h.1.2 q hq, fun q hq => h.2 q hq⟩
theorem szB_ok {r : Rl} (h : szB r = true) : RlSz r := by
 simp only [szB, Bool.and_eq_true, decide_eq_true_eq] at h
 exact ⟨h.1.1.1, h.1.1.2, h.1.2, h.2⟩
theorem ktl (l : Bs) : (kstr l).toList = l := by rw [ByteArray.toList_eq]; rfl
def exT1 : Bs := [114, 117, 108, 101, 32, 122, 101, 114, 111, 58, 32, 40, 97, 100, 100, 32, 63, 120, 32, 48, 41, 32, 61, 62, 32, 63, 120, 59, 32, 47, 47, 32, 115, 111]
def exT2 : Bs := [97, 120, 105, 111, 109, 32, 110, 111, 116, 104, 105, 110, 103, 59]
def exP : Bs := [114, 117, 108, 101, 32, 122, 101, 114, 111, 58, 32, 40, 97, 100, 100, 32, 63, 97, 32, 48, 41, 32, 61, 62, 32, 63, 97, 59, 10]
theorem ex1 : (match parseF exT1 with | .ok [r] => decide (kx r.name = [122, 101, 114, 111]) && decide (r.vars = 1) && decide (printF [r] = exP) && szB r && riB r | _ => false) = true := by decide +kernel
theorem ex2 : (match parseF exT2 with | .error e => decide (e.1 = 3) && decide (e.2 = 6) | _ => false) = true := by decide +kernel
theorem ex1' : ∃ r, parseF exT1 = .ok [r] ∧ r.name = kstr [122, 101, 114, 111] ∧ r.vars = 1 ∧ printF [r] = exP ∧ RlSz r ∧ RlI r := by
 have h := ex1
 split at h
 ·
  rename_i r he
  simp only [Bool.and_eq_true, decide_eq_true_eq] at h
  exact ⟨r, he, by apply kx_inj; rw [kx_kstr]; exact h.1.1.1.1, h.1.1.1.2, h.1.1.2, szB_ok h.1.2, riB_ok h.2⟩
 ·
  cases h
theorem ex2' : parseF exT2 = .error (3, 6) := by
 have h := ex2
 split at h
 ·
  rename_i e he
  simp only [Bool.and_eq_true, decide_eq_true_eq] at h
  rw [he]
  obtain ⟨a, b⟩ := e
  rw [show a = 3 from h.1, show b = 6 from h.2]
 ·
  cases h
set_option maxRecDepth 100000 in
set_option maxHeartbeats 1000000 in
theorem RuExamples_c (w : World) : Calls Try.prog 3 #[] w fun e w' => e = .returned (.bool true) ∧ Upd Non w w' := by
 obtain ⟨r, hp, hnm, hvr, hpr, hsz, hri⟩ := ex1'
 have C1 := Lib.hid (rParse_all (kstr exT1) w)
 rw [kx_kstr, hp] at C1
 have C2 := Lib.hid (fun W => rParse_all (kstr exT2) W)
 have CX := Lib.hid (fun W => rAxioms_c W)
 have HP := Lib.hid hpr
 have HS := Lib.hid hsz
 have HI := Lib.hid hri
 clear hp hpr hsz hri
 go_enter Try.func3, Try.ntmps3
 go_wp2_with fail
 refine C1.out.mono ?_
 rintro e w1 ⟨u1, h⟩
 rcases h with ⟨er, h, _⟩ | ⟨Q, A, c, h, rfl, hv, hle⟩
 ·
  cases h
 injection h with h
 subst h
 have hs1 := u1.size
 have HU1 := Lib.hid u1
 have HV := Lib.hid hv
 clear u1 hv hle
 obtain ⟨W2, HW2⟩ := nm (w1.alloc (.cells #[.int .i64 0, .int .i64 0] 25))
 have u2 : Upd Non w1 W2 := by rw [← HW2.out]; exact Upd.refl.alloc _
 have b2 : Blk W2 w1.heap.size 25 #[.int .i64 0, .int .i64 0] := by rw [← HW2.out]; exact Blk.new _ _ _
 have C22 := Lib.hid (C2.out W2)
 rw [kx_kstr, ex2'] at C22
 go_upto_region 2 with fail
 rw [HW2.out]
 go_wp2_with fail
 refine C22.out.mono ?_
 rintro e w3 ⟨u3, h⟩
 rcases h with ⟨er, h, rfl⟩ | ⟨Q, A, c, h, _⟩
 rotate_left
 ·
  cases h
 injection h with h
 subst h
 have b3 := b2.upd u3 (fun f => f)
 obtain ⟨W4, HW4⟩ := nm (w3.alloc (.cells #[.int .i64 3, .int .i64 6] 25))
 have u4 : Upd Non w3 W4 := by rw [← HW4.out]; exact Upd.refl.alloc _
 have b4 : Blk W4 w3.heap.size 25 #[.int .i64 3, .int .i64 6] := by rw [← HW4.out]; exact Blk.new _ _ _
 have b5 := b3.upd u4 (fun f => f)
 have U4 := (u2.then_non u3).then_non u4
 have HB4 := Lib.hid b4
 have HB5 := Lib.hid b5
 have HU4 := Lib.hid U4
 have hV := HV.out.upd U4 (fun _ _ _ f => f)
 obtain ⟨b, o, a, rfl, _, hbw, hat, _⟩ := hV.at_ (i := 0) (by simp)
 have CP := Lib.hid (rPrint_c W4 _ _ c [r] hV (fun x hx => by rw [List.mem_singleton] at hx; rw [hx]; exact HS.out) (fun x hx => by rw [List.mem_singleton] at hx; rw [hx]; exact HI.out) (by simp))
 rw [HP.out] at CP
 unfold RlAt at hat
 rw [List.getElem_cons_zero, Nat.zero_mul, Nat.add_zero, hnm, hvr] at hat
 obtain ⟨x0, _, _, _, _, _, _, _, _, _, _, _, x12, _⟩ := hat
 go_upto_region 3 with fail
 rw [HW4.out]
 have y0 := b5.cell 0
 have y1 := b5.cell 1
 have z0 := b4.cell 0
 have z1 := b4.cell 1
 clear C1 C2 C22 HW2 HW4 b2 b3 b4 b5 u2 u3 u4 U4
 have hq1 : ((kstr [122, 101, 114, 111]).toList == [122, 101, 114, 111]) = true := by rw [ktl]; rfl
 have hq2 : ((kstr exP).toList == [114, 117, 108, 101, 32, 122, 101, 114, 111, 58, 32, 40, 97, 100, 100, 32, 63, 97, 32, 48, 41, 32, 61, 62, 32, 63, 97, 59, 10]) = true := by rw [ktl]; rfl
 obtain ⟨nz, Hnz⟩ := nm (kstr [122, 101, 114, 111])
 obtain ⟨ps, Hps⟩ := nm (kstr exP)
 rw [Hnz.out] at x0 hq1
 rw [Hps.out] at CP hq2
 go_wp2_with fail
 refine CP.out.mono ?_
 rintro e w5 ⟨rfl, u5⟩
 have z0 := cell_upd z0 u5 (fun f => f)
 have z1 := cell_upd z1 u5 (fun f => f)
 have CA := Lib.hid (CX.out w5)
 have HU5 := Lib.hid (HU4.out.then_non u5)
 clear CP x0 x12 y0 y1
 go_wp2_with fail
 refine CA.out.mono ?_
 rintro e w6 ⟨A6, c6, rfl, _, _, u6⟩
 clear CA z0 z1
 go_wp2_with fail
 go_ret
 exact ⟨rfl, (HU1.out.then_non HU5.out).then_non u6⟩
end Go.Proofs.Ytblkgjdhaibhgaa
namespace Go.Proofs.Ytblkgjdhaibhgaa
open Go.RowKit
theorem i64_0 (n : Int) (h : -1000 ≤ n ∧ n ≤ 1000) : I64 n := by unfold I64; omega
theorem leafF_i {sort : Int} {dp : Bool} {vars : Int} {st : Bool} {n : Int} (h : I64 n) : PI (leafF sort dp vars st n) := by
 have key : ∀ (v op imm iv : Int), I64 imm → PI (.mk v op imm iv []) := fun v op imm iv hi q hq => by
  simp only [nodes, nodesL, List.mem_singleton] at hq
  subst hq; exact hi
 unfold leafF
 split
 ·
  exact key _ _ _ _ (i64_0 _ (by omega))
 ·
  split
  ·
   exact key _ _ _ _ (wordF_i64 _ h)
  ·
   split <;> exact key _ _ _ _ (i64_0 _ (by omega))
theorem tail_i {xs : List Int} (h : ∀ x ∈ xs, I64 x) : ∀ x ∈ xs.tail, I64 x := fun x hx => h x (List.mem_of_mem_tail hx)
theorem head_i {xs : List Int} (h : ∀ x ∈ xs, I64 x) : I64 (xs.headD 0) := by
 cases xs with
 | nil => exact i64_0 _ (by simp)
 | cons x xs => exact h x List.mem_cons_self
theorem nodesL_of {q : Pt} : ∀ {ks : List Pt}, q ∈ nodesL ks → ∃ k ∈ ks, q ∈ nodes k
 | [], h => by simp [nodesL] at h
 | k :: ks, h => by
  rw [nodesL, List.mem_append] at h
  rcases h with h | h
  ·
   exact ⟨k, List.mem_cons_self, h⟩
  ·
   obtain ⟨k2, h1, h2⟩ := nodesL_of h
   exact ⟨k2, List.mem_cons_of_mem _ h1, h2⟩
theorem PI.mk {v op imm iv : Int} {ks : List Pt} (hi : I64 imm) (h : ∀ k ∈ ks, PI k) : PI (.mk v op imm iv ks) := by
 intro q hq
 rw [nodes_eq, List.mem_cons] at hq
 rcases hq with rfl | hq
 ·
  exact hi
 ·
  obtain ⟨k, h1, h2⟩ := nodesL_of hq
  exact h k h1 q h2
theorem kImm_i (op n : Int) : I64 (kImmF op n).1 := by
 unfold kImmF
 split
 ·
  split
  ·
   dsimp only
   split
   ·
    exact i64_0 _ (by omega)
   ·
    exact i64_0 _ (by omega)
  ·
   exact i64_0 _ (by simp)
 ·
  exact i64_0 _ (by simp)
theorem patF_i (vars : Int) (st : Bool) : ∀ (f : Nat) (s : Int) (xs : List Int), (∀ x ∈ xs, I64 x) → PI (patF vars st f s xs).1 ∧ ∀ x ∈ (patF vars st f s xs).2, I64 x
 | 0, s, xs, h => ⟨leafF_i (head_i h), tail_i h⟩
 | f + 1, s, xs, h => by
  rw [patF]
  split
  ·
   exact ⟨leafF_i (head_i h), tail_i h⟩
  ·
   have key : ∀ (ss : List Int) (xs : List Int), (∀ x ∈ xs, I64 x) → (∀ k ∈ (kidsG (patF vars st f) ss xs).1, PI k) ∧ ∀ x ∈ (kidsG (patF vars st f) ss xs).2, I64 x := by
    intro ss
    induction ss with
    | nil => intro xs h; exact ⟨fun k hk => by simp [kidsG] at hk, h⟩
    | cons s ss ih =>
     intro xs h
     obtain ⟨h1, h2⟩ := patF_i vars st f s xs h
     obtain ⟨h3, h4⟩ := ih _ h2
     simp only [kidsG]
     exact ⟨fun k hk => by
      rcases List.mem_cons.1 hk with rfl | hk
      ·
       exact h1
      ·
       exact h3 k hk, h4⟩
   obtain ⟨h1, h2⟩ := key (sortsOf (kOpF s st (xs.headD 0))) xs.tail (tail_i h)
   exact ⟨.mk (kImm_i _ _) h1, h2⟩
theorem numF_i (p : Pt) : ∀ (vs ms : List Int), PI p → PI (numF p vs ms).1 := by
 induction p using Pt.ind with
 | h p ih =>
  intro vs ms hp
  have hI := hp p (nodes_self p)
  by_cases hv : 0 < p.v
  ·
   rw [numF_var hv]
   exact .mk hI fun k hk => hp.kid hk
  ·
   rw [numF_op hv]
   refine .mk hI ?_
   have key : ∀ (ks : List Pt), (∀ k ∈ ks, PI k ∧ ∀ (vs ms : List Int), PI k → PI (numF k vs ms).1) → ∀ vs ms, ∀ k ∈ (numL ks vs ms).1, PI k := by
    intro ks
    induction ks with
    | nil => intro _ vs ms k hk; simp [numL] at hk
    | cons k ks ihk =>
     intro hh vs ms q hq
     simp only [numL] at hq
     obtain ⟨h1, h2⟩ := hh k List.mem_cons_self
     rcases List.mem_cons.1 hq with rfl | hq
     ·
      exact h2 _ _ h1
     ·
      exact ihk (fun q hq => hh q (List.mem_cons_of_mem _ hq)) _ _ q hq
   exact key _ (fun k hk => ⟨hp.kid hk, ih k hk⟩) _ _
theorem sideF_i {op : Int} {p : Pt} (h : PI p) : PI (sideF op p) := by
 unfold sideF
 split
 ·
  exact .mk (i64_0 _ (by omega)) fun k hk => by rw [List.mem_singleton] at hk; subst hk; exact h
 ·
  exact h
theorem kRule_i (name : ByteArray) (xs : List Int) (h : ∀ x ∈ xs, I64 x) : RlI (kRuleF name xs) := by
 obtain ⟨h1, h2⟩ := patF_i (3 : Nat) false 3 1 xs.tail (tail_i h)
 have h3 := sideF_i (op := 21) (numF_i _ [] [] h1)
 unfold kRuleF
 dsimp only
 split
 ·
  refine ⟨h3, .mk (wordF_i64 _ (i64_0 _ (by omega))) (fun k hk => by simp at hk), fun x hx => by simp at hx⟩
 ·
  refine ⟨h3, (patF_i _ false 2 1 _ h2).1, fun x hx => ?_⟩
  simp only [kCondsF] at hx
  (repeat' split at hx) <;> simp at hx <;> subst hx <;> first | exact wordF_i64 _ (i64_0 3 (by omega)) | exact i64_0 0 (by omega)
theorem sideF_cn {p : Pt} {m : Nat} (h : (∀ q ∈ nodes p, q.iv = 0) → cn p 0 0 = some (m, 0)) (hs : ∀ q ∈ nodes (sideF 21 p), q.iv = 0) : cn (sideF 21 p) 0 0 = some (m, 0) := by
 unfold sideF at hs ⊢
 split
 ·
  rename_i hv
  rw [if_pos hv] at hs
  have h2 := h fun q hq => hs q (by simp only [nodes, nodesL, List.append_nil, List.mem_cons]; exact .inr hq)
  rw [cn, if_neg (by decide)]
  have e : cnI 0 0 = some 0 := rfl
  rw [e]
  dsimp only
  rw [cnL, h2]
  rfl
 ·
  rename_i hv
  rw [if_neg hv] at hs
  exact h hs
theorem kRule_rt {name : ByteArray} {xs : List Int} (h : ∀ x ∈ xs, I64 x) (hv : implF (kRuleF name xs) = true) : Rt (kRuleF name xs) (kRuleF name xs).vars.toNat (kRuleF name xs).imms.toNat := by
 refine rt_of hv (kRule_i name xs h) ?_
 have k := imp_ok hv
 have hshl := k.shl
 have hl : (kRuleF name xs).l = sideF 21 (numF (patF (3 : Nat) false 3 1 xs.tail).1 [] []).1 := by unfold kRuleF; dsimp only; split <;> rfl
 have hm : (kRuleF name xs).imms = 0 := by unfold kRuleF; dsimp only; split <;> rfl
 have hvs : (kRuleF name xs).vars = ((numF (patF (3 : Nat) false 3 1 xs.tail).1 [] []).2.1.length : Int) := by
  unfold kRuleF; dsimp only; split
  ·
   rename_i q; rw [q]; rfl
  ·
   rfl
 rw [hm, hl] at hshl
 rw [hl, hm, hvs]
 exact sideF_cn (fun hq => num_cn _ [] [] 0 hq) (shp_iv0 _ _ _ hshl)
theorem kRule_name (name : ByteArray) (xs : List Int) : (kRuleF name xs).name = name := by unfold kRuleF; dsimp only; split <;> rfl
theorem ax_allR : axL.all (fun x => match axiomF x.1 with | some r => szB r && riB r && implF r && decide (cn r.l 0 0 = some (r.vars.toNat, r.imms.toNat)) && decide (kx r.name = x.1) | none => false) = true := by decide +kernel
structure AxOk (x : Bs × Bs) (r : Rl) : Prop where
 eq : axiomF x.1 = some r
 sz : RlSz r
 i : RlI r
 v : implF r = true
 rt : Rt r r.vars.toNat r.imms.toNat
 nm : r.name = kstr x.1
theorem ax_rule {x : Bs × Bs} (h : x ∈ axL) : ∃ r, AxOk x r := by
 have h1 := List.all_eq_true.1 ax_allR x h
 split at h1
 ·
  rename_i r he
  simp only [Bool.and_eq_true, decide_eq_true_eq] at h1
  obtain ⟨⟨⟨⟨a1, a2⟩, a3⟩, a4⟩, a5⟩ := h1
  refine ⟨r, he, szB_ok a1, riB_ok a2, a3, rt_of a3 (riB_ok a2) a4, ?_⟩
  rw [← a5]
  rfl
 ·
  cases h1
end Go.Proofs.Ytblkgjdhaibhgaa
namespace Go.Proofs.Ytblkgjdhaibhgaa
open Go.RowKit
structure RtOk (r : Rl) : Prop where
 v : implF r = true
 rt : Rt r r.vars.toNat r.imms.toNat
theorem lex_rules : ∀ L : List Rl, (∀ r ∈ L, Rt6 r) → Lex (fmtRs L) (L.map wR).flatten
 | [], _ => Lex.nil
 | r :: L, h => by
  have h1 := (lex_rule (h r List.mem_cons_self)).app (lex_rules L fun x hx => h x (List.mem_cons_of_mem _ hx))
  rw [List.map_cons, List.flatten_cons]
  exact h1
theorem parse_print {L : List Rl} (h : ∀ r ∈ L, RtOk r) (hn : (L.map (·.name)).Nodup) (hl : L.length ≤ 160) (hs : (fmtRs L).length ≤ 20000) : parseF (fmtRs L) = .ok L := by
 have e1 : ((L.map fun r => (wR r, r)).map (·.1)) = L.map wR := by rw [List.map_map]; rfl
 have e2 : ((L.map fun r => (wR r, r)).map (·.2)) = L := by rw [List.map_map]; exact List.map_id L
 have := parse_file (ax := axiomF) (s := fmtRs L) (cs := L.map fun r => (wR r, r)) (by rw [e1]; exact lex_rules L fun r hr => (h r hr).rt.t) hs (fun c hc => by
  obtain ⟨r, hr, rfl⟩ := List.mem_map.1 hc
  exact ⟨rule_rt (h r hr).rt, (h r hr).v⟩) (by rw [e2]; exact hn) (by rw [List.length_map]; exact hl)
 rw [e2] at this
 exact this
theorem print_ok {L : List Rl} (h : ∀ r ∈ L, RtOk r) : printF L = fmtRs L := by
 unfold printF
 rw [if_pos (List.all_eq_true.2 fun r hr => (h r hr).v)]
theorem print_no {L : List Rl} {r : Rl} (hr : r ∈ L) (h : implF r = false) : printF L = [] := by
 unfold printF
 rw [if_neg]
 intro q
 have := List.all_eq_true.1 q r hr
 rw [h] at this
 cases this
theorem nm_one {x : Bs × Bs} (hx : x ∈ axL) : kstr x.1 ≠ kstr [111, 110, 101] ∧ kstr x.1 ≠ kstr [116, 119, 111] := by
 have key : axL.all (fun x => decide (x.1 ≠ [111, 110, 101] ∧ x.1 ≠ [116, 119, 111])) = true := by decide +kernel
 have := List.all_eq_true.1 key x hx
 rw [decide_eq_true_eq] at this
 refine ⟨fun q => this.1 ?_, fun q => this.2 ?_⟩
 ·
  rw [← kx_kstr x.1, q, kx_kstr]
 ·
  rw [← kx_kstr x.1, q, kx_kstr]
theorem three_rt {x : Bs × Bs} {a : Rl} (hx : x ∈ axL) (ha : AxOk x a) {r s : Rl} (hr : RtOk r) (hs : RtOk s) (hrn : r.name = kstr [111, 110, 101]) (hsn : s.name = kstr [116, 119, 111]) (hri : RlI r) (hsi : RlI s) : parseF (printF [r, a, s]) = .ok [r, a, s] ∧ printF [r, a, s] = fmtRs [r, a, s] := by
 have hok : ∀ q ∈ [r, a, s], RtOk q := by
  intro q hq
  simp only [List.mem_cons, List.not_mem_nil, or_false] at hq
  rcases hq with rfl | rfl | rfl
  ·
   exact hr
  ·
   exact ⟨ha.v, ha.rt⟩
  ·
   exact hs
 rw [print_ok hok]
 refine ⟨parse_print hok ?_ (by simp) ?_, rfl⟩
 ·
  obtain ⟨n1, n2⟩ := nm_one hx
  have n3 : kstr [111, 110, 101] ≠ kstr [116, 119, 111] := fun q => by
   have := congrArg kx q
   rw [kx_kstr, kx_kstr] at this
   exact absurd this (by decide)
  simp only [List.map_cons, List.map_nil, hrn, hsn, ha.nm, List.nodup_cons, List.mem_cons, List.not_mem_nil, or_false, not_or, not_false_eq_true, List.nodup_nil, and_true]
  exact ⟨⟨fun q => n1 q.symm, n3⟩, n2⟩
 ·
  have := fmtRs_len (L := [r, a, s]) fun q hq => by
   simp only [List.mem_cons, List.not_mem_nil, or_false] at hq
   rcases hq with rfl | rfl | rfl
   ·
    exact impl_fm hr.v hri
   ·
    exact impl_fm ha.v ha.i
   ·
    exact impl_fm hs.v hsi
  exact Nat.le_trans this (by simp)
end Go.Proofs.Ytblkgjdhaibhgaa
namespace Go.Proofs.Ytblkgjdhaibhgaa
open Go.RowKit
set_option maxRecDepth 100000 in
set_option maxHeartbeats 2000000 in
theorem samePattern_c (p : Pt) : ∀ (q : Pt) (w : World) (F G : Nat → Prop) (KA KC : Option Addr) (kc kd : Nat), PtK w F p KA kc → PtK w G q KC kd → p.size ≤ 1000000000000 →
  Calls Try.prog 61 #[pv p KA kc, pv q KC kd] w fun e w' => e = .returned (.bool (ptE p q)) ∧ Upd Non w w' := by
 induction p using Pt.ind with
 | h p ih =>
  intro q w F G KA KC kc kd hp hq hs
  have hse := Pt.size_eq p
  have hle := Pt.len_le p.kids
  have HI := Lib.hid ih
  have HE := Lib.hid (ptE_eq p q)
  obtain ⟨res, Hres⟩ := nm (ptE p q)
  rw [Hres.out] at HE ⊢
  obtain ⟨W1, HW1⟩ := nm (w.alloc (.cells #[.int .i64 p.v, .int .i64 p.op, .int .i64 p.imm, .int .i64 p.iv, .slice KA p.kids.length kc] 30))
  have u1 : Upd Non w W1 := by rw [← HW1.out]; exact Upd.refl.alloc _
  have b1 : Blk W1 w.heap.size 30 #[.int .i64 p.v, .int .i64 p.op, .int .i64 p.imm, .int .i64 p.iv, .slice KA p.kids.length kc] := by rw [← HW1.out]; exact Blk.new _ _ _
  have s1 : W1.heap.size = w.heap.size + 1 := by rw [← HW1.out]; simp
  obtain ⟨W2, HW2⟩ := nm (W1.alloc (.cells #[.int .i64 q.v, .int .i64 q.op, .int .i64 q.imm, .int .i64 q.iv, .slice KC q.kids.length kd] 30))
  have u2 : Upd Non W1 W2 := by rw [← HW2.out]; exact Upd.refl.alloc _
  have b2 : Blk W2 (w.heap.size + 1) 30 #[.int .i64 q.v, .int .i64 q.op, .int .i64 q.imm, .int .i64 q.iv, .slice KC q.kids.length kd] := by rw [← HW2.out, ← s1]; exact Blk.new _ _ _
  have b1 := b1.upd u2 (fun f => f)
  have U2 := u1.then_non u2
  have e1 := HW1.out
  have e2 := HW2.out
  have HB1 := Lib.hid b1
  have HB2 := Lib.hid b2
  have HU := Lib.hid U2
  have HP := Lib.hid (PtK.upd U2 (fun _ _ _ f => f) p KA kc hp)
  have HQ := Lib.hid (PtK.upd U2 (fun _ _ _ f => f) q KC kd hq)
  have c0 := b1.cell 0
  have c1 := b1.cell 1
  have c2 := b1.cell 2
  have c3 := b1.cell 3
  have c4 := b1.cell 4
  have d0 := b2.cell 0
  have d1 := b2.cell 1
  have d2 := b2.cell 2
  have d3 := b2.cell 3
  have d4 := b2.cell 4
  unfold pv
  clear ih hp hq u1 u2 b1 b2 U2 HW1 HW2
  have HV : Hid ((p.v != q.v) = !decide (p.v = q.v)) := by show _ = _; by_cases h : p.v = q.v <;> simp [h]
  obtain ⟨pn, Hpn⟩ := nm p.kids.length
  obtain ⟨qn, Hqn⟩ := nm q.kids.length
  rw [Hpn.out] at c4 e1 hle HE
  rw [Hqn.out] at d4 e2 HE
  rw [Hpn.out, Hqn.out]
  by_cases h1 : p.v = q.v
  ·
   by_cases h2 : p.op = q.op
   ·
    by_cases h3 : p.imm = q.imm
    ·
     by_cases h4 : p.iv = q.iv
     ·
      by_cases h5 : pn = qn
      ·
       have t1 : (p.v != q.v) = false := by simpa using h1
       have t2 : (p.op != q.op) = false := by simpa using h2
       have t3 : (p.imm != q.imm) = false := by simpa using h3
       have t4 : (p.iv != q.iv) = false := by simpa using h4
       have t5 : ((pn : Int) != (qn : Int)) = false := by simp [h5]
       have HR : Hid (res = ptEL p.kids q.kids) := by show _ = _; rw [HE.out, decide_eq_true ⟨h1, h2, h3, h4, h5⟩, Bool.true_and]
       clear h1 h2 h3 h4
       subst h5
       obtain ⟨n, rfl⟩ : ∃ m, m = pn := ⟨_, rfl⟩
       have hn12 : n ≤ 1000000000000 := by omega
       go_enter Try.func61, Try.ntmps61
       go_wp2_with fail
       clear e1 e2 c0 c1 c2 c3 d0 d1 d2 d3 t1 t2 t3 t4 t5
       go_loopg [5] n (fun g  iv wr => ∃ k : Nat, Hid (g = n - k) ∧ k ≤ n ∧ iv = .int .i64 k ∧ Hid (∀ i (h : i < p.kids.length) (h2 : i < q.kids.length), i < k → ptE p.kids[i] q.kids[i] = true) ∧ Hid (Upd Non W2 wr))
       case atStart => exact ⟨0, rfl, Nat.zero_le _, rfl, fun i _ _ h => by omega, Upd.refl⟩
       case round =>
        obtain ⟨k, Hg, hk, rfl, HA, Hu⟩ := hrel
        have c4 := cell_upd c4 Hu.out (fun f => f)
        have d4 := cell_upd d4 Hu.out (fun f => f)
        by_cases hlt : k < n
        ·
         have hkl : k < p.kids.length := by rw [Hpn.out]; exact hlt
         have hkq : k < q.kids.length := by rw [Hqn.out]; exact hlt
         obtain ⟨b, o, rfl, hF, hbw, KB, c1_, g0, g1, g2, g3, g4, g5⟩ := (PtK.upd Hu.out (fun _ _ _ f => f) p KA kc HP.out).at_ hkl
         obtain ⟨b2, o2, rfl, hG, hbw2, KZ, c2_, k0, k1, k2, k3, k4, k5⟩ := (PtK.upd Hu.out (fun _ _ _ f => f) q KC kd HQ.out).at_ hkq
         have hks : p.kids[k].size ≤ 1000000000000 := by have := Pt.kids_lt (List.getElem_mem hkl); omega
         have HNX : Hid (ptE p.kids[k] q.kids[k] = false → res = false) := fun h => by rw [HR.out]; exact ptEL_no hkl hkq h
         have HNY : Hid (ptE p.kids[k] q.kids[k] = true → ∀ i (h : i < p.kids.length) (h2 : i < q.kids.length), i < k + 1 → ptE p.kids[i] q.kids[i] = true) := fun h i h1 h2 h3 => by
          by_cases e : i = k
          ·
           subst e; exact h
          ·
           exact HA.out i h1 h2 (by omega)
         have CR := Lib.hid (fun W (u : Upd Non wr W) => HI.out _ (List.getElem_mem hkl) q.kids[k] W F G KB KZ c1_ c2_ (PtK.upd u (fun _ _ _ f => f) _ _ _ g5) (PtK.upd u (fun _ _ _ f => f) _ _ _ k5) hks)
         generalize p.kids[k] = x at *
         generalize q.kids[k] = z at *
         unfold pv at CR
         obtain ⟨B, HB⟩ := nm (ptE x z)
         rw [HB.out] at CR
         clear g5 k5 hks
         go_upto_region 6 with fail
         go_cut [59] (fun s wx => s = .bool (!B) ∧ Upd Non wr wx)
         case first =>
          obtain ⟨wD, HwD⟩ := nm wr.drew
          have uD : Upd Non wr wD := by rw [← HwD.out]; exact Upd.refl.drew
          refine wp_region_held_drew (S := fun w' => w'.cell? ⟨w.heap.size, 4, none⟩ = some (.slice (some ⟨b, o, none⟩) n kc) ∧ w'.cell? ⟨w.heap.size + 1, 4, none⟩ = some (.slice (some ⟨b2, o2, none⟩) n kd) ∧ w'.cell? ⟨b, o + k * 5, none⟩ = some (.int .i64 x.v) ∧ w'.cell? ⟨b, o + k * 5 + 1, none⟩ = some (.int .i64 x.op) ∧ w'.cell? ⟨b, o + k * 5 + 2, none⟩ = some (.int .i64 x.imm) ∧ w'.cell? ⟨b, o + k * 5 + 3, none⟩ = some (.int .i64 x.iv) ∧ w'.cell? ⟨b, o + k * 5 + 4, none⟩ = some (.slice KB x.kids.length c1_) ∧ w'.cell? ⟨b2, o2 + k * 5, none⟩ = some (.int .i64 z.v) ∧ w'.cell? ⟨b2, o2 + k * 5 + 1, none⟩ = some (.int .i64 z.op) ∧ w'.cell? ⟨b2, o2 + k * 5 + 2, none⟩ = some (.int .i64 z.imm) ∧ w'.cell? ⟨b2, o2 + k * 5 + 3, none⟩ = some (.int .i64 z.iv) ∧ w'.cell? ⟨b2, o2 + k * 5 + 4, none⟩ = some (.slice KZ z.kids.length c2_)) (by kernel_rfl) (by rw [HwD.out]; exact ⟨cell_upd c4 uD (fun f => f), cell_upd d4 uD (fun f => f), cell_upd g0 uD (fun f => f), cell_upd g1 uD (fun f => f), cell_upd g2 uD (fun f => f), cell_upd g3 uD (fun f => f), cell_upd g4 uD (fun f => f), cell_upd k0 uD (fun f => f), cell_upd k1 uD (fun f => f), cell_upd k2 uD (fun f => f), cell_upd k3 uD (fun f => f), cell_upd k4 uD (fun f => f)⟩) (fun hHeld => ?_)
          rw [HwD.out] at hHeld ⊢
          refine wpT 0 ?_
          try simp only [put_y]
          try simp only [Act.put]
          try simp only [put_z]
          refine wpT 1 ?_
          try simp only [put_y]
          try simp only [Act.put]
          try simp only [put_z]
          refine wpT 2 ?_
          try simp only [put_y]
          try simp only [Act.put]
          try simp only [put_z]
          refine wpT 3 ?_
          try simp only [put_y]
          try simp only [Act.put]
          try simp only [put_z]
          refine wpT 4 ?_
          try simp only [put_y]
          try simp only [Act.put]
          try simp only [put_z]
          refine wpT 5 ?_
          try simp only [put_y]
          try simp only [Act.put]
          try simp only [put_z]
          refine wpT 6 ?_
          try simp only [put_y]
          try simp only [Act.put]
          try simp only [put_z]
          refine wpT 7 ?_
          try simp only [put_y]
          try simp only [Act.put]
          try simp only [put_z]
          refine wpT 8 ?_
          try simp only [put_y]
          try simp only [Act.put]
          try simp only [put_z]
          refine wpT 9 ?_
          try simp only [put_y]
          try simp only [Act.put]
          try simp only [put_z]
          refine wpAnyH_ready (rs := [10]) (by kernel_rfl) (by simp) ?_
          refine AllReadyH.cons rfl (fun K hK => ?_) AllReadyH.nil
          go_simp
          refine (CR.out _ uD).mono ?_
          rintro e w5 ⟨rfl, u5⟩
          have h5 : Upd Non wr w5 := uD.then_non u5
          go_wp2_with fail
          refine hK.out _ _ ?_ (fun hHeld => ?_)
          ·
           exact ⟨cell_upd c4 h5 (fun f => f), cell_upd d4 h5 (fun f => f), cell_upd g0 h5 (fun f => f), cell_upd g1 h5 (fun f => f), cell_upd g2 h5 (fun f => f), cell_upd g3 h5 (fun f => f), cell_upd g4 h5 (fun f => f), cell_upd k0 h5 (fun f => f), cell_upd k1 h5 (fun f => f), cell_upd k2 h5 (fun f => f), cell_upd k3 h5 (fun f => f), cell_upd k4 h5 (fun f => f)⟩
          clear hK K
          try simp only [put_y]
          try simp only [Act.put]
          try simp only [put_z]
          refine wpT 11 ?_
          try simp only [put_y]
          try simp only [Act.put]
          try simp only [put_z]
          refine wpAnyH_done (by kernel_rfl) ?_ _
          go_wp2_with fail
          go_meet
          case rel => exact ⟨rfl, h5⟩
         case rest =>
          obtain ⟨rfl, hwc⟩ := hcut
          have HUC := Lib.hid (Hu.out.then_non hwc)
          have c4 := cell_upd c4 hwc (fun f => f)
          clear CR g0 g1 g2 g3 g4 k0 k1 k2 k3 k4 hwc
          cases B with
          | false =>
           have HF : Hid (res = false) := HNX.out HB.out
           go_wp2_with fail
           go_ret
           exact ⟨by rw [HF.out]; rfl, HU.out.then_non HUC.out⟩
          | true =>
           have HA2 := Lib.hid (HNY.out HB.out)
           go_wp2_with fail
           go_roundg (n - (k + 1))
           case measure => rw [Hg.out]; omega
           case rel => exact ⟨k + 1, rfl, by omega, by go_num, HA2, HUC⟩
        ·
         obtain rfl : n = k := by omega
         have HT : Hid (res = true) := by
          show _ = _
          rw [HR.out]
          exact ptEL_of fun i h1 h2 => HA.out i h1 h2 (by rw [← Hpn.out]; exact h1)
         go_wp2_with fail
         go_ret
         exact ⟨by rw [HT.out]; rfl, HU.out.then_non Hu.out⟩
      ·
       have t1 : (p.v != q.v) = false := by simpa using h1
       have t2 : (p.op != q.op) = false := by simpa using h2
       have t3 : (p.imm != q.imm) = false := by simpa using h3
       have t4 : (p.iv != q.iv) = false := by simpa using h4
       have t5 : ((pn : Int) != (qn : Int)) = true := by simpa using fun e => h5 (by omega)
       have HR : Hid (res = false) := by show _ = _; rw [HE.out, decide_eq_false (fun h => h5 h.2.2.2.2), Bool.false_and]
       clear h1 h2 h3 h4 h5
       go_enter Try.func61, Try.ntmps61
       go_wp2_with fail
       go_ret
       exact ⟨by rw [HR.out]; rfl, HU.out⟩
     ·
      have t1 : (p.v != q.v) = false := by simpa using h1
      have t2 : (p.op != q.op) = false := by simpa using h2
      have t3 : (p.imm != q.imm) = false := by simpa using h3
      have t4 : (p.iv != q.iv) = true := by simpa using h4
      have HR : Hid (res = false) := by show _ = _; rw [HE.out, decide_eq_false (fun h => h4 h.2.2.2.1), Bool.false_and]
      clear h1 h2 h3 h4
      go_enter Try.func61, Try.ntmps61
      go_wp2_with fail
      go_ret
      exact ⟨by rw [HR.out]; rfl, HU.out⟩
    ·
     have t1 : (p.v != q.v) = false := by simpa using h1
     have t2 : (p.op != q.op) = false := by simpa using h2
     have t3 : (p.imm != q.imm) = true := by simpa using h3
     have HR : Hid (res = false) := by show _ = _; rw [HE.out, decide_eq_false (fun h => h3 h.2.2.1), Bool.false_and]
     clear h1 h2 h3
     go_enter Try.func61, Try.ntmps61
     go_wp2_with fail
     go_ret
     exact ⟨by rw [HR.out]; rfl, HU.out⟩
   ·
    have t1 : (p.v != q.v) = false := by simpa using h1
    have t2 : (p.op != q.op) = true := by simpa using h2
    have HR : Hid (res = false) := by show _ = _; rw [HE.out, decide_eq_false (fun h => h2 h.2.1), Bool.false_and]
    clear h1 h2
    go_enter Try.func61, Try.ntmps61
    go_wp2_with fail
    go_ret
    exact ⟨by rw [HR.out]; rfl, HU.out⟩
  ·
   have t1 : (p.v != q.v) = true := by simpa using h1
   have HR : Hid (res = false) := by show _ = _; rw [HE.out, decide_eq_false (fun h => h1 h.1), Bool.false_and]
   clear h1
   go_enter Try.func61, Try.ntmps61
   go_wp2_with fail
   go_ret
   exact ⟨by rw [HR.out]; rfl, HU.out⟩
end Go.Proofs.Ytblkgjdhaibhgaa
namespace Go.Proofs.Ytblkgjdhaibhgaa
open Go.RowKit
set_option maxRecDepth 100000 in
set_option maxHeartbeats 2000000 in
theorem sameRule_c (r : Rl) (a : RlA) (s : Rl) (e : RlA) (w : World) (F G : Nat → Prop) (hr : RlK w F r a) (hs : RlK w G s e) (hz : RlSz r) :
  Calls Try.prog 34 #[rlv r a, rlv s e] w fun en w' => en = .returned (.bool (rlE r s)) ∧ Upd Non w w' := by
 have HE : Hid (rlE r s = (decide (r.vars = s.vars ∧ r.imms = s.imms ∧ r.conds.length = s.conds.length) && ptE r.l s.l && ptE r.r s.r && decide (r.conds = s.conds))) := rfl
 obtain ⟨res, Hres⟩ := nm (rlE r s)
 rw [Hres.out] at HE ⊢
 obtain ⟨W1, HW1⟩ := nm (w.alloc (.cells (rlCells r a) 33))
 have u1 : Upd Non w W1 := by rw [← HW1.out]; exact Upd.refl.alloc _
 have b1 : Blk W1 w.heap.size 33 (rlCells r a) := by rw [← HW1.out]; exact Blk.new _ _ _
 have s1 : W1.heap.size = w.heap.size + 1 := by rw [← HW1.out]; simp
 obtain ⟨W2, HW2⟩ := nm (W1.alloc (.cells (rlCells s e) 33))
 have u2 : Upd Non W1 W2 := by rw [← HW2.out]; exact Upd.refl.alloc _
 have b2 : Blk W2 (w.heap.size + 1) 33 (rlCells s e) := by rw [← HW2.out, ← s1]; exact Blk.new _ _ _
 have b1 := b1.upd u2 (fun f => f)
 have U2 := u1.then_non u2
 have e1 := HW1.out
 have e2 := HW2.out
 have HU := Lib.hid U2
 have HKR := Lib.hid (hr.upd U2 (fun _ _ _ f => f))
 have HKS := Lib.hid (hs.upd U2 (fun _ _ _ f => f))
 have HB1 := Lib.hid b1
 have HB2 := Lib.hid b2
 have hb1 := b1
 have hb2 := b2
 unfold rlCells at hb1 hb2 e1 e2
 have c1 := hb1.cell 1
 have c2 := hb1.cell 2
 have c3 := hb1.cell 3
 have c4 := hb1.cell 4
 have c5 := hb1.cell 5
 have c6 := hb1.cell 6
 have c7 := hb1.cell 7
 have c8 := hb1.cell 8
 have c9 := hb1.cell 9
 have c10 := hb1.cell 10
 have c11 := hb1.cell 11
 have c12 := hb1.cell 12
 have c13 := hb1.cell 13
 have d1 := hb2.cell 1
 have d2 := hb2.cell 2
 have d3 := hb2.cell 3
 have d4 := hb2.cell 4
 have d5 := hb2.cell 5
 have d6 := hb2.cell 6
 have d7 := hb2.cell 7
 have d8 := hb2.cell 8
 have d9 := hb2.cell 9
 have d10 := hb2.cell 10
 have d11 := hb2.cell 11
 have d12 := hb2.cell 12
 have d13 := hb2.cell 13
 have CL := Lib.hid (fun W (u : Upd Non W2 W) => samePattern_c r.l s.l W F G a.la e.la a.lc e.lc (PtK.upd u (fun _ _ _ f => f) _ _ _ HKR.out.l) (PtK.upd u (fun _ _ _ f => f) _ _ _ HKS.out.l) hz.l)
 have CR := Lib.hid (fun W (u : Upd Non W2 W) => samePattern_c r.r s.r W F G a.ra e.ra a.rc e.rc (PtK.upd u (fun _ _ _ f => f) _ _ _ HKR.out.r) (PtK.upd u (fun _ _ _ f => f) _ _ _ HKS.out.r) hz.r)
 unfold pv at CL CR
 unfold rlv rlCells
 have hcz := hz.c
 obtain ⟨pn, Hpn⟩ := nm r.conds.length
 obtain ⟨qn, Hqn⟩ := nm s.conds.length
 rw [Hpn.out] at c11 e1 HE hcz
 rw [Hqn.out] at d11 e2 HE
 rw [Hpn.out, Hqn.out]
 obtain ⟨B1, HB1_⟩ := nm (ptE r.l s.l)
 obtain ⟨B2, HB2_⟩ := nm (ptE r.r s.r)
 rw [HB1_.out] at CL HE
 rw [HB2_.out] at CR HE
 clear hr hs u1 u2 b1 b2 U2 HW1 HW2 hb1 hb2 hz
 by_cases h1 : r.vars = s.vars
 ·
  by_cases h2 : r.imms = s.imms
  ·
   by_cases h3 : pn = qn
   ·
    have t1 : (r.vars != s.vars) = false := by simpa using h1
    have t2 : (r.imms != s.imms) = false := by simpa using h2
    have t3 : ((pn : Int) != (qn : Int)) = false := by simp [h3]
    rw [decide_eq_true ⟨h1, h2, h3⟩, Bool.true_and] at HE
    clear h1 h2
    subst h3
    obtain ⟨n, rfl⟩ : ∃ m, m = pn := ⟨_, rfl⟩
    go_enter Try.func34, Try.ntmps34
    go_wp2_with fail
    refine (CL.out _ Upd.refl).mono ?_
    rintro en w3 ⟨rfl, u3⟩
    clear CL e1 e2
    cases B1 with
    | false =>
     have HF : Hid (res = false) := by show _ = _; rw [HE.out]; rfl
     go_wp2_with fail
     go_ret
     exact ⟨by rw [HF.out]; rfl, HU.out.then_non u3⟩
    | true =>
     have c6 := cell_upd c6 u3 (fun f => f)
     have c7 := cell_upd c7 u3 (fun f => f)
     have c8 := cell_upd c8 u3 (fun f => f)
     have c9 := cell_upd c9 u3 (fun f => f)
     have c10 := cell_upd c10 u3 (fun f => f)
     have c11 := cell_upd c11 u3 (fun f => f)
     have d6 := cell_upd d6 u3 (fun f => f)
     have d7 := cell_upd d7 u3 (fun f => f)
     have d8 := cell_upd d8 u3 (fun f => f)
     have d9 := cell_upd d9 u3 (fun f => f)
     have d10 := cell_upd d10 u3 (fun f => f)
     have d11 := cell_upd d11 u3 (fun f => f)
     go_wp2_with fail
     refine (CR.out _ u3).mono ?_
     rintro en w4 ⟨rfl, u4⟩
     clear CR
     have U4 : Upd Non W2 w4 := u3.then_non u4
     cases B2 with
     | false =>
      have HF : Hid (res = false) := by show _ = _; rw [HE.out]; rfl
      go_wp2_with fail
      go_ret
      exact ⟨by rw [HF.out]; rfl, HU.out.then_non U4⟩
     | true =>
      have HD : Hid (res = decide (r.conds = s.conds)) := by show _ = _; rw [HE.out]; rfl
      have c11 := cell_upd c11 u4 (fun f => f)
      have d11 := cell_upd d11 u4 (fun f => f)
      have HU4 := Lib.hid U4
      clear t1 t2 t3 U4 c1 c2 c3 c4 c5 c6 c7 c8 c9 c10 c12 c13 d1 d2 d3 d4 d5 d6 d7 d8 d9 d10 d12 d13
      go_wp2_with fail
      go_loopg [5] n (fun g  iv wr => ∃ k : Nat, Hid (g = n - k) ∧ k ≤ n ∧ iv = .int .i64 k ∧ Hid (r.conds.take k = s.conds.take k) ∧ Hid (Upd Non w4 wr))
      case atStart => exact ⟨0, rfl, Nat.zero_le _, rfl, by show _ = _; simp, Upd.refl⟩
      case round =>
       obtain ⟨k, Hg, hk, rfl, HA, Hu⟩ := hrel
       have c11 := cell_upd c11 Hu.out (fun f => f)
       have d11 := cell_upd d11 Hu.out (fun f => f)
       have HUW := Lib.hid (HU4.out.then_non Hu.out)
       by_cases hlt : k < n
       ·
        have hkl : k < r.conds.length := by rw [Hpn.out]; exact hlt
        have hkq : k < s.conds.length := by rw [Hqn.out]; exact hlt
        have hta := (HKR.out.c.upd HUW.out (fun _ _ _ f => f)).take hkl
        have htb := (HKS.out.c.upd HUW.out (fun _ _ _ f => f)).take hkq
        have HNX : Hid (¬ r.conds[k] = s.conds[k] → res = false) := fun h => by
         rw [HD.out]
         refine decide_eq_false (fun q => h ?_)
         simp only [q]
        have HNY : Hid (r.conds[k] = s.conds[k] → r.conds.take (k + 1) = s.conds.take (k + 1)) := fun h => by rw [take_snoc' hkl, take_snoc' hkq, HA.out, h]
        generalize r.conds[k] = x at *
        generalize s.conds[k] = z at *
        obtain ⟨ca, Hca⟩ := nm a.ca
        obtain ⟨ce, Hce⟩ := nm e.ca
        rw [Hca.out] at hta c11
        rw [Hce.out] at htb d11
        obtain ⟨b, o, rfl, hbw, g0, g1, g2, g3⟩ := hta
        obtain ⟨b2, o2, rfl, hbw2, k0, k1, k2, k3⟩ := htb
        go_upto_region 6 with fail
        go_cut [60] (fun s wx => s = .bool (!decide (x = z)) ∧ Upd Non wr wx)
        case first =>
         obtain ⟨wD, HwD⟩ := nm wr.drew
         have uD : Upd Non wr wD := by rw [← HwD.out]; exact Upd.refl.drew
         refine wp_region_held_drew (S := fun w' => w'.cell? ⟨w.heap.size, 11, none⟩ = some (.slice (some ⟨b, o, none⟩) n a.cc) ∧ w'.cell? ⟨w.heap.size + 1, 11, none⟩ = some (.slice (some ⟨b2, o2, none⟩) n e.cc) ∧ w'.cell? ⟨b, o + k * 4, none⟩ = some (.int .i64 x.kind) ∧ w'.cell? ⟨b, o + k * 4 + 1, none⟩ = some (.int .i64 x.a) ∧ w'.cell? ⟨b, o + k * 4 + 2, none⟩ = some (.int .i64 x.b) ∧ w'.cell? ⟨b, o + k * 4 + 3, none⟩ = some (.int .i64 x.n) ∧ w'.cell? ⟨b2, o2 + k * 4, none⟩ = some (.int .i64 z.kind) ∧ w'.cell? ⟨b2, o2 + k * 4 + 1, none⟩ = some (.int .i64 z.a) ∧ w'.cell? ⟨b2, o2 + k * 4 + 2, none⟩ = some (.int .i64 z.b) ∧ w'.cell? ⟨b2, o2 + k * 4 + 3, none⟩ = some (.int .i64 z.n)) (by kernel_rfl) (by rw [HwD.out]; exact ⟨cell_upd c11 uD (fun f => f), cell_upd d11 uD (fun f => f), cell_upd g0 uD (fun f => f), cell_upd g1 uD (fun f => f), cell_upd g2 uD (fun f => f), cell_upd g3 uD (fun f => f), cell_upd k0 uD (fun f => f), cell_upd k1 uD (fun f => f), cell_upd k2 uD (fun f => f), cell_upd k3 uD (fun f => f)⟩) (fun hHeld => ?_)
         rw [HwD.out] at hHeld ⊢
         have HXZ : Hid (x = z ↔ x.kind = z.kind ∧ x.a = z.a ∧ x.b = z.b ∧ x.n = z.n) := by
          show _ ↔ _
          cases x; cases z; simp
         by_cases q0 : x.kind = z.kind
         ·
          by_cases q1 : x.a = z.a
          ·
           by_cases q2 : x.b = z.b
           ·
            by_cases q3 : x.n = z.n
            ·
             have HDC : Hid (decide (x = z) = true) := decide_eq_true (HXZ.out.2 ⟨q0, q1, q2, q3⟩)
             refine wpT 0 ?_
             try simp only [put_y]
             try simp only [Act.put]
             try simp only [put_z]
             refine wpT 1 ?_
             try simp only [put_y]
             try simp only [Act.put]
             try simp only [put_z]
             refine wpT 2 ?_
             try simp only [put_y]
             try simp only [Act.put]
             try simp only [put_z]
             refine wpT 3 ?_
             try simp only [put_y]
             try simp only [Act.put]
             try simp only [put_z]
             refine wpT 4 ?_
             try simp only [put_y]
             try simp only [Act.put]
             try simp only [put_z]
             refine wpT 5 ?_
             try simp only [put_y]
             try simp only [Act.put]
             try simp only [put_z]
             refine wpT 6 ?_
             try simp only [put_y]
             try simp only [Act.put]
             try simp only [put_z]
             refine wpT 7 ?_
             try simp only [put_y]
             try simp only [Act.put]
             try simp only [put_z]
             refine wpT 8 ?_
             try simp only [put_y]
             try simp only [Act.put]
             try simp only [put_z]
             refine wpT 9 ?_
             try simp only [put_y]
             try simp only [Act.put]
             try simp only [put_z]
             refine wpT 10 ?_
             try simp only [put_y]
             try simp only [Act.put]
             try simp only [put_z]
             refine wpAnyH_done (by kernel_rfl) ?_ _
             go_wp2_with fail
             go_meet
             case rel => exact ⟨by rw [HDC.out]; rfl, uD⟩
            ·
             have HDC : Hid (decide (x = z) = false) := decide_eq_false (fun h => q3 (HXZ.out.1 h).2.2.2)
             refine wpT 0 ?_
             try simp only [put_y]
             try simp only [Act.put]
             try simp only [put_z]
             refine wpT 1 ?_
             try simp only [put_y]
             try simp only [Act.put]
             try simp only [put_z]
             refine wpT 2 ?_
             try simp only [put_y]
             try simp only [Act.put]
             try simp only [put_z]
             refine wpT 3 ?_
             try simp only [put_y]
             try simp only [Act.put]
             try simp only [put_z]
             refine wpT 4 ?_
             try simp only [put_y]
             try simp only [Act.put]
             try simp only [put_z]
             refine wpT 5 ?_
             try simp only [put_y]
             try simp only [Act.put]
             try simp only [put_z]
             refine wpT 6 ?_
             try simp only [put_y]
             try simp only [Act.put]
             try simp only [put_z]
             refine wpT 7 ?_
             try simp only [put_y]
             try simp only [Act.put]
             try simp only [put_z]
             refine wpT 8 ?_
             try simp only [put_y]
             try simp only [Act.put]
             try simp only [put_z]
             refine wpT 9 ?_
             try simp only [put_y]
             try simp only [Act.put]
             try simp only [put_z]
             refine wpT 10 ?_
             try simp only [put_y]
             try simp only [Act.put]
             try simp only [put_z]
             refine wpAnyH_done (by kernel_rfl) ?_ _
             go_wp2_with fail
             go_meet
             case rel => exact ⟨by rw [HDC.out]; rfl, uD⟩
           ·
            have HDC : Hid (decide (x = z) = false) := decide_eq_false (fun h => q2 (HXZ.out.1 h).2.2.1)
            refine wpT 0 ?_
            try simp only [put_y]
            try simp only [Act.put]
            try simp only [put_z]
            refine wpT 1 ?_
            try simp only [put_y]
            try simp only [Act.put]
            try simp only [put_z]
            refine wpT 2 ?_
            try simp only [put_y]
            try simp only [Act.put]
            try simp only [put_z]
            refine wpT 3 ?_
            try simp only [put_y]
            try simp only [Act.put]
            try simp only [put_z]
            refine wpT 4 ?_
            try simp only [put_y]
            try simp only [Act.put]
            try simp only [put_z]
            refine wpT 5 ?_
            try simp only [put_y]
            try simp only [Act.put]
            try simp only [put_z]
            refine wpT 6 ?_
            try simp only [put_y]
            try simp only [Act.put]
            try simp only [put_z]
            refine wpT 7 ?_
            try simp only [put_y]
            try simp only [Act.put]
            try simp only [put_z]
            refine wpT 8 ?_
            try simp only [put_y]
            try simp only [Act.put]
            try simp only [put_z]
            refine wpT 9 ?_
            try simp only [put_y]
            try simp only [Act.put]
            try simp only [put_z]
            refine wpT 10 ?_
            try simp only [put_y]
            try simp only [Act.put]
            try simp only [put_z]
            refine wpAnyH_done (by kernel_rfl) ?_ _
            go_wp2_with fail
            go_meet
            case rel => exact ⟨by rw [HDC.out]; rfl, uD⟩
          ·
           have HDC : Hid (decide (x = z) = false) := decide_eq_false (fun h => q1 (HXZ.out.1 h).2.1)
           refine wpT 0 ?_
           try simp only [put_y]
           try simp only [Act.put]
           try simp only [put_z]
           refine wpT 1 ?_
           try simp only [put_y]
           try simp only [Act.put]
           try simp only [put_z]
           refine wpT 2 ?_
           try simp only [put_y]
           try simp only [Act.put]
           try simp only [put_z]
           refine wpT 3 ?_
           try simp only [put_y]
           try simp only [Act.put]
           try simp only [put_z]
           refine wpT 4 ?_
           try simp only [put_y]
           try simp only [Act.put]
           try simp only [put_z]
           refine wpT 5 ?_
           try simp only [put_y]
           try simp only [Act.put]
           try simp only [put_z]
           refine wpT 6 ?_
           try simp only [put_y]
           try simp only [Act.put]
           try simp only [put_z]
           refine wpT 7 ?_
           try simp only [put_y]
           try simp only [Act.put]
           try simp only [put_z]
           refine wpT 8 ?_
           try simp only [put_y]
           try simp only [Act.put]
           try simp only [put_z]
           refine wpT 9 ?_
           try simp only [put_y]
           try simp only [Act.put]
           try simp only [put_z]
           refine wpT 10 ?_
           try simp only [put_y]
           try simp only [Act.put]
           try simp only [put_z]
           refine wpAnyH_done (by kernel_rfl) ?_ _
           go_wp2_with fail
           go_meet
           case rel => exact ⟨by rw [HDC.out]; rfl, uD⟩
         ·
          have HDC : Hid (decide (x = z) = false) := decide_eq_false (fun h => q0 (HXZ.out.1 h).1)
          refine wpT 0 ?_
          try simp only [put_y]
          try simp only [Act.put]
          try simp only [put_z]
          refine wpT 1 ?_
          try simp only [put_y]
          try simp only [Act.put]
          try simp only [put_z]
          refine wpT 2 ?_
          try simp only [put_y]
          try simp only [Act.put]
          try simp only [put_z]
          refine wpT 3 ?_
          try simp only [put_y]
          try simp only [Act.put]
          try simp only [put_z]
          refine wpT 4 ?_
          try simp only [put_y]
          try simp only [Act.put]
          try simp only [put_z]
          refine wpT 5 ?_
          try simp only [put_y]
          try simp only [Act.put]
          try simp only [put_z]
          refine wpT 6 ?_
          try simp only [put_y]
          try simp only [Act.put]
          try simp only [put_z]
          refine wpT 7 ?_
          try simp only [put_y]
          try simp only [Act.put]
          try simp only [put_z]
          refine wpT 8 ?_
          try simp only [put_y]
          try simp only [Act.put]
          try simp only [put_z]
          refine wpT 9 ?_
          try simp only [put_y]
          try simp only [Act.put]
          try simp only [put_z]
          refine wpT 10 ?_
          try simp only [put_y]
          try simp only [Act.put]
          try simp only [put_z]
          refine wpAnyH_done (by kernel_rfl) ?_ _
          go_wp2_with fail
          go_meet
          case rel => exact ⟨by rw [HDC.out]; rfl, uD⟩
        case rest =>
         obtain ⟨rfl, hwc⟩ := hcut
         have HUC := Lib.hid (Hu.out.then_non hwc)
         have c11 := cell_upd c11 hwc (fun f => f)
         clear g0 g1 g2 g3 k0 k1 k2 k3 hwc
         obtain ⟨B, HB⟩ := nm (decide (x = z))
         rw [HB.out]
         cases B with
         | false =>
          have HF : Hid (res = false) := HNX.out (of_decide_eq_false HB.out)
          go_wp2_with fail
          go_ret
          exact ⟨by rw [HF.out]; rfl, (HU.out.then_non HU4.out).then_non HUC.out⟩
         | true =>
          have HA2 := Lib.hid (HNY.out (of_decide_eq_true HB.out))
          go_wp2_with fail
          go_roundg (n - (k + 1))
          case measure => rw [Hg.out]; omega
          case rel => exact ⟨k + 1, rfl, by omega, by go_num, HA2, HUC⟩
       ·
        obtain rfl : n = k := by omega
        have HT : Hid (res = true) := by
         show _ = _
         rw [HD.out]
         have h := HA.out
         rw [← Hpn.out, List.take_length, Hpn.out, ← Hqn.out, List.take_length] at h
         exact decide_eq_true h
        go_wp2_with fail
        go_ret
        exact ⟨by rw [HT.out]; rfl, (HU.out.then_non HU4.out).then_non Hu.out⟩
   ·
    have t1 : (r.vars != s.vars) = false := by simpa using h1
    have t2 : (r.imms != s.imms) = false := by simpa using h2
    have t3 : ((pn : Int) != (qn : Int)) = true := by simpa using fun e => h3 (by omega)
    have HR : Hid (res = false) := by show _ = _; rw [HE.out, decide_eq_false (fun h => h3 h.2.2)]; rfl
    clear h1 h2 h3
    go_enter Try.func34, Try.ntmps34
    go_wp2_with fail
    go_ret
    exact ⟨by rw [HR.out]; rfl, HU.out⟩
  ·
   have t1 : (r.vars != s.vars) = false := by simpa using h1
   have t2 : (r.imms != s.imms) = true := by simpa using h2
   have HR : Hid (res = false) := by show _ = _; rw [HE.out, decide_eq_false (fun h => h2 h.2.1)]; rfl
   clear h1 h2
   go_enter Try.func34, Try.ntmps34
   go_wp2_with fail
   go_ret
   exact ⟨by rw [HR.out]; rfl, HU.out⟩
 ·
  have t1 : (r.vars != s.vars) = true := by simpa using h1
  have HR : Hid (res = false) := by show _ = _; rw [HE.out, decide_eq_false (fun h => h1 h.1)]; rfl
  clear h1
  go_enter Try.func34, Try.ntmps34
  go_wp2_with fail
  go_ret
  exact ⟨by rw [HR.out]; rfl, HU.out⟩
end Go.Proofs.Ytblkgjdhaibhgaa
namespace Go.Proofs.Ytblkgjdhaibhgaa
open Go.RowKit
set_option maxRecDepth 100000 in
set_option maxHeartbeats 2000000 in
theorem sameRules_c (L M : List Rl) (w : World) (F G : Nat → Prop) (A B : Option Addr) (c d : Nat) (hL : RlsV w F A L) (hM : RlsV w G B M) (hz : ∀ r ∈ L, RlSz r) (hn : L.length ≤ 1000000000000) :
  Calls Try.prog 14 #[.slice A L.length c, .slice B M.length d] w fun en w' => en = .returned (.bool (rlsE L M)) ∧ Upd Non w w' := by
 have HE : Hid (∀ h : rlsE L M = false, rlsE L M = false) := fun h => h
 have HL := Lib.hid hL
 have HM := Lib.hid hM
 have HZ := Lib.hid hz
 have HLE : Hid (L.length ≠ M.length → rlsE L M = false) := fun h => by
  cases hq : rlsE L M with
  | false => rfl
  | true => exact absurd (rlsE_len hq) h
 have HNO : Hid (∀ i (h1 : i < L.length) (h2 : i < M.length), (¬ L[i].name = M[i].name ∨ rlE L[i] M[i] = false) → rlsE L M = false) := fun i h1 h2 h => rlsE_no h1 h2 h
 have HYES : Hid (L.length = M.length → (∀ i (h1 : i < L.length) (h2 : i < M.length), L[i].name = M[i].name ∧ rlE L[i] M[i] = true) → rlsE L M = true) := fun h k => rlsE_of h k
 obtain ⟨res, Hres⟩ := nm (rlsE L M)
 rw [Hres.out] at HLE HNO HYES ⊢
 clear HE Hres hL hM hz
 obtain ⟨n, Hn⟩ := nm L.length
 obtain ⟨m, Hm⟩ := nm M.length
 rw [Hn.out] at hn HLE
 rw [Hm.out] at HLE
 rw [Hn.out, Hm.out]
 by_cases hnm : n = m
 ·
  have t0 : ((n : Int) != (m : Int)) = false := by simp [hnm]
  subst hnm
  obtain ⟨nn, rfl⟩ : ∃ q, q = n := ⟨_, rfl⟩
  go_enter Try.func14, Try.ntmps14
  go_wp2_with fail
  go_loopg [5] nn (fun g iv wr => ∃ k : Nat, Hid (g = nn - k) ∧ k ≤ nn ∧ iv = .int .i64 k ∧ Hid (∀ i (h1 : i < L.length) (h2 : i < M.length), i < k → L[i].name = M[i].name ∧ rlE L[i] M[i] = true) ∧ Hid (Upd Non w wr))
  case atStart => exact ⟨0, rfl, Nat.zero_le _, rfl, fun i _ _ h => by omega, Upd.refl⟩
  case round =>
   obtain ⟨k, Hg, hk, rfl, HA, HU⟩ := hrel
   by_cases hlt : k < nn
   ·
    have hkl : k < L.length := by rw [Hn.out]; exact hlt
    have hkm : k < M.length := by rw [Hm.out]; exact hlt
    have HX := Lib.hid (HL.out.upd HU.out (fun _ _ _ f => f))
    have HY := Lib.hid (HM.out.upd HU.out (fun _ _ _ f => f))
    obtain ⟨b, o, a, rfl, _, hbw, hat, hrk⟩ := HX.out.at_ hkl
    obtain ⟨b2, o2, e, rfl, _, hbw2, hat2, hsk⟩ := HY.out.at_ hkm
    have HRZ := Lib.hid (HZ.out _ (List.getElem_mem hkl))
    have HN1 : Hid (¬ L[k].name = M[k].name ∨ rlE L[k] M[k] = false → res = false) := HNO.out k hkl hkm
    have HA2 : Hid (L[k].name = M[k].name → rlE L[k] M[k] = true → ∀ i (h1 : i < L.length) (h2 : i < M.length), i < k + 1 → L[i].name = M[i].name ∧ rlE L[i] M[i] = true) := fun g1 g2 i h1 h2 h => by
     by_cases q : i < k
     ·
      exact HA.out i h1 h2 q
     ·
      obtain rfl : i = k := by omega
      exact ⟨g1, g2⟩
    clear HX HY
    generalize L[k] = r at *
    generalize M[k] = s at *
    obtain ⟨wD, HwD⟩ := nm wr.drew
    have uD : Upd Non wr wD := by rw [← HwD.out]; exact Upd.refl.drew
    have CS := Lib.hid (fun W (u : Upd Non wr W) => sameRule_c r a s e W F G (hrk.upd u (fun _ _ _ f => f)) (hsk.upd u (fun _ _ _ f => f)) HRZ.out)
    have HRS : Hid (∀ W, Upd Non wr W → RlAt W b (o + k * 14) r a ∧ RlAt W b2 (o2 + k * 14) s e) := fun W u => ⟨hat.upd u (fun f => f), hat2.upd u (fun f => f)⟩
    have HrD := Lib.hid (hat.upd uD (fun f => f))
    have HsD := Lib.hid (hat2.upd uD (fun f => f))
    clear hat hat2 hrk hsk
    unfold rlv rlCells at CS
    unfold RlAt at HRS HrD HsD
    obtain ⟨E, HE⟩ := nm (rlE r s)
    rw [HE.out] at CS HN1 HA2
    obtain ⟨na, Hna⟩ := nm r.name
    obtain ⟨nb, Hnb⟩ := nm s.name
    rw [Hna.out, Hnb.out] at CS HN1 HA2
    rw [Hna.out] at HrD
    rw [Hnb.out] at HsD
    rw [Hna.out, Hnb.out] at HRS
    go_upto_region 6 with fail
    go_cut [39] (fun v wx => v = .bool (!(decide (na = nb) && E)) ∧ Upd Non wr wx)
    case first =>
     refine wp_region_held_drew (S := fun w' => (w'.cell? ⟨b, o + k * 14, none⟩ = some (.string na) ∧ w'.cell? ⟨b, o + k * 14 + 1, none⟩ = some (.int .i64 r.l.v) ∧ w'.cell? ⟨b, o + k * 14 + 2, none⟩ = some (.int .i64 r.l.op) ∧ w'.cell? ⟨b, o + k * 14 + 3, none⟩ = some (.int .i64 r.l.imm) ∧ w'.cell? ⟨b, o + k * 14 + 4, none⟩ = some (.int .i64 r.l.iv) ∧ w'.cell? ⟨b, o + k * 14 + 5, none⟩ = some (.slice a.la r.l.kids.length a.lc) ∧ w'.cell? ⟨b, o + k * 14 + 6, none⟩ = some (.int .i64 r.r.v) ∧ w'.cell? ⟨b, o + k * 14 + 7, none⟩ = some (.int .i64 r.r.op) ∧ w'.cell? ⟨b, o + k * 14 + 8, none⟩ = some (.int .i64 r.r.imm) ∧ w'.cell? ⟨b, o + k * 14 + 9, none⟩ = some (.int .i64 r.r.iv) ∧ w'.cell? ⟨b, o + k * 14 + 10, none⟩ = some (.slice a.ra r.r.kids.length a.rc) ∧ w'.cell? ⟨b, o + k * 14 + 11, none⟩ = some (.slice a.ca r.conds.length a.cc) ∧ w'.cell? ⟨b, o + k * 14 + 12, none⟩ = some (.int .i64 r.vars) ∧ w'.cell? ⟨b, o + k * 14 + 13, none⟩ = some (.int .i64 r.imms)) ∧ w'.cell? ⟨b2, o2 + k * 14, none⟩ = some (.string nb) ∧ w'.cell? ⟨b2, o2 + k * 14 + 1, none⟩ = some (.int .i64 s.l.v) ∧ w'.cell? ⟨b2, o2 + k * 14 + 2, none⟩ = some (.int .i64 s.l.op) ∧ w'.cell? ⟨b2, o2 + k * 14 + 3, none⟩ = some (.int .i64 s.l.imm) ∧ w'.cell? ⟨b2, o2 + k * 14 + 4, none⟩ = some (.int .i64 s.l.iv) ∧ w'.cell? ⟨b2, o2 + k * 14 + 5, none⟩ = some (.slice e.la s.l.kids.length e.lc) ∧ w'.cell? ⟨b2, o2 + k * 14 + 6, none⟩ = some (.int .i64 s.r.v) ∧ w'.cell? ⟨b2, o2 + k * 14 + 7, none⟩ = some (.int .i64 s.r.op) ∧ w'.cell? ⟨b2, o2 + k * 14 + 8, none⟩ = some (.int .i64 s.r.imm) ∧ w'.cell? ⟨b2, o2 + k * 14 + 9, none⟩ = some (.int .i64 s.r.iv) ∧ w'.cell? ⟨b2, o2 + k * 14 + 10, none⟩ = some (.slice e.ra s.r.kids.length e.rc) ∧ w'.cell? ⟨b2, o2 + k * 14 + 11, none⟩ = some (.slice e.ca s.conds.length e.cc) ∧ w'.cell? ⟨b2, o2 + k * 14 + 12, none⟩ = some (.int .i64 s.vars) ∧ w'.cell? ⟨b2, o2 + k * 14 + 13, none⟩ = some (.int .i64 s.imms)) (by kernel_rfl) (by rw [HwD.out]; exact ⟨HrD.out, HsD.out⟩) (fun hHeld => ?_)
     rw [HwD.out] at hHeld ⊢
     by_cases hq : na = nb
     ·
      have hq1 : (na.toList != nb.toList) = false := by simp [hq]
      have hq2 : (na.toList == nb.toList) = true := by simp [hq]
      have HQ : Hid (decide (na = nb) = true) := decide_eq_true hq
      clear hq
      refine wpT 0 ?_
      try simp only [put_y]
      try simp only [Act.put]
      try simp only [put_z]
      refine wpT 1 ?_
      try simp only [put_y]
      try simp only [Act.put]
      try simp only [put_z]
      refine wpT 2 ?_
      try simp only [put_y]
      try simp only [Act.put]
      try simp only [put_z]
      refine wpT 3 ?_
      try simp only [put_y]
      try simp only [Act.put]
      try simp only [put_z]
      refine wpT 4 ?_
      try simp only [put_y]
      try simp only [Act.put]
      try simp only [put_z]
      refine wpT 5 ?_
      try simp only [put_y]
      try simp only [Act.put]
      try simp only [put_z]
      refine wpT 6 ?_
      try simp only [put_y]
      try simp only [Act.put]
      try simp only [put_z]
      refine wpT 7 ?_
      try simp only [put_y]
      try simp only [Act.put]
      try simp only [put_z]
      refine wpT 8 ?_
      try simp only [put_y]
      try simp only [Act.put]
      try simp only [put_z]
      refine wpT 9 ?_
      try simp only [put_y]
      try simp only [Act.put]
      try simp only [put_z]
      refine wpT 10 ?_
      try simp only [put_y]
      try simp only [Act.put]
      try simp only [put_z]
      refine wpT 11 ?_
      try simp only [put_y]
      try simp only [Act.put]
      try simp only [put_z]
      refine wpT 12 ?_
      try simp only [put_y]
      try simp only [Act.put]
      try simp only [put_z]
      refine wpT 13 ?_
      try simp only [put_y]
      try simp only [Act.put]
      try simp only [put_z]
      refine wpT 14 ?_
      try simp only [put_y]
      try simp only [Act.put]
      try simp only [put_z]
      refine wpT 15 ?_
      try simp only [put_y]
      try simp only [Act.put]
      try simp only [put_z]
      refine wpT 16 ?_
      try simp only [put_y]
      try simp only [Act.put]
      try simp only [put_z]
      refine wpT 17 ?_
      try simp only [put_y]
      try simp only [Act.put]
      try simp only [put_z]
      refine wpT 18 ?_
      try simp only [put_y]
      try simp only [Act.put]
      try simp only [put_z]
      refine wpT 19 ?_
      try simp only [put_y]
      try simp only [Act.put]
      try simp only [put_z]
      refine wpAnyH_ready (rs := [20]) (by kernel_rfl) (by simp) ?_
      refine AllReadyH.cons rfl (fun K hK => ?_) AllReadyH.nil
      go_simp
      refine (CS.out _ uD).mono ?_
      rintro en w5 ⟨rfl, u5⟩
      have h5 : Upd Non wr w5 := uD.then_non u5
      go_wp2_with fail
      refine hK.out _ _ ?_ (fun hHeld => ?_)
      ·
       exact HRS.out w5 h5
      clear hK K
      try simp only [put_y]
      try simp only [Act.put]
      try simp only [put_z]
      refine wpT 21 ?_
      try simp only [put_y]
      try simp only [Act.put]
      try simp only [put_z]
      refine wpT 22 ?_
      try simp only [put_y]
      try simp only [Act.put]
      try simp only [put_z]
      refine wpAnyH_done (by kernel_rfl) ?_ _
      go_wp2_with fail
      go_meet
      case rel => exact ⟨by rw [HQ.out]; rfl, h5⟩
     ·
      have hq1 : (na.toList != nb.toList) = true := by simpa using fun q => hq (by rw [ByteArray.toList_eq, ByteArray.toList_eq] at q; cases na; cases nb; simpa using q)
      have hq2 : (na.toList == nb.toList) = false := by simpa using fun q => hq (by rw [ByteArray.toList_eq, ByteArray.toList_eq] at q; cases na; cases nb; simpa using q)
      have HQ : Hid (decide (na = nb) = false) := decide_eq_false hq
      clear hq
      refine wpT 0 ?_
      try simp only [put_y]
      try simp only [Act.put]
      try simp only [put_z]
      refine wpT 1 ?_
      try simp only [put_y]
      try simp only [Act.put]
      try simp only [put_z]
      refine wpT 2 ?_
      try simp only [put_y]
      try simp only [Act.put]
      try simp only [put_z]
      refine wpT 3 ?_
      try simp only [put_y]
      try simp only [Act.put]
      try simp only [put_z]
      refine wpT 4 ?_
      try simp only [put_y]
      try simp only [Act.put]
      try simp only [put_z]
      refine wpT 5 ?_
      try simp only [put_y]
      try simp only [Act.put]
      try simp only [put_z]
      refine wpT 6 ?_
      try simp only [put_y]
      try simp only [Act.put]
      try simp only [put_z]
      refine wpT 7 ?_
      try simp only [put_y]
      try simp only [Act.put]
      try simp only [put_z]
      refine wpT 8 ?_
      try simp only [put_y]
      try simp only [Act.put]
      try simp only [put_z]
      refine wpT 9 ?_
      try simp only [put_y]
      try simp only [Act.put]
      try simp only [put_z]
      refine wpT 10 ?_
      try simp only [put_y]
      try simp only [Act.put]
      try simp only [put_z]
      refine wpT 11 ?_
      try simp only [put_y]
      try simp only [Act.put]
      try simp only [put_z]
      refine wpU 12 ?_
      try simp only [put_y]
      try simp only [Act.put]
      try simp only [put_z]
      refine wpU 13 ?_
      try simp only [put_y]
      try simp only [Act.put]
      try simp only [put_z]
      refine wpU 14 ?_
      try simp only [put_y]
      try simp only [Act.put]
      try simp only [put_z]
      refine wpU 15 ?_
      try simp only [put_y]
      try simp only [Act.put]
      try simp only [put_z]
      refine wpU 16 ?_
      try simp only [put_y]
      try simp only [Act.put]
      try simp only [put_z]
      refine wpU 17 ?_
      try simp only [put_y]
      try simp only [Act.put]
      try simp only [put_z]
      refine wpU 18 ?_
      try simp only [put_y]
      try simp only [Act.put]
      try simp only [put_z]
      refine wpU 19 ?_
      try simp only [put_y]
      try simp only [Act.put]
      try simp only [put_z]
      refine wpU 20 ?_
      try simp only [put_y]
      try simp only [Act.put]
      try simp only [put_z]
      refine wpU 21 ?_
      try simp only [put_y]
      try simp only [Act.put]
      try simp only [put_z]
      refine wpT 22 ?_
      try simp only [put_y]
      try simp only [Act.put]
      try simp only [put_z]
      refine wpAnyH_done (by kernel_rfl) ?_ _
      go_wp2_with fail
      go_meet
      case rel => exact ⟨by rw [HQ.out]; rfl, uD⟩
    case rest =>
     obtain ⟨rfl, hwc⟩ := hcut
     have HUC := Lib.hid (HU.out.then_non hwc)
     clear hwc
     obtain ⟨D, HD⟩ := nm (decide (na = nb) && E)
     rw [HD.out]
     cases D with
     | false =>
      have HF : Hid (res = false) := HN1.out (by
       have h := HD.out
       rw [Bool.and_eq_false_iff] at h
       exact h.imp of_decide_eq_false id)
      go_wp2_with fail
      go_ret
      exact ⟨by rw [HF.out]; rfl, HUC.out⟩
     | true =>
      have HA3 : Hid (∀ i (h1 : i < L.length) (h2 : i < M.length), i < k + 1 → L[i].name = M[i].name ∧ rlE L[i] M[i] = true) := by
       have h := HD.out
       rw [Bool.and_eq_true] at h
       exact HA2.out (of_decide_eq_true h.1) h.2
      go_wp2_with fail
      go_roundg (nn - (k + 1))
      case measure => rw [Hg.out]; omega
      case rel => exact ⟨k + 1, rfl, by omega, by go_num, HA3, HUC⟩
   ·
    obtain rfl : nn = k := by omega
    have HT : Hid (res = true) := HYES.out (by rw [Hn.out, Hm.out]) fun i h1 h2 => HA.out i h1 h2 (by rw [← Hn.out]; exact h1)
    go_wp2_with fail
    go_ret
    exact ⟨by rw [HT.out]; rfl, HU.out⟩
 ·
  have t0 : ((n : Int) != (m : Int)) = true := by simpa using fun e => hnm (by omega)
  have HF : Hid (res = false) := HLE.out hnm
  clear hnm
  go_enter Try.func14, Try.ntmps14
  go_wp2_with fail
  go_ret
  exact ⟨by rw [HF.out]; rfl, Upd.refl⟩
end Go.Proofs.Ytblkgjdhaibhgaa
namespace Go.Proofs.Ytblkgjdhaibhgaa
open Go.RowKit
def BBlk (w : World) (g : Nat) (bs : List Bool) : Prop := Blk w g 4 (bs.map Value.bool).toArray
theorem BBlk.cell {w : World} {g : Nat} {bs : List Bool} (h : BBlk w g bs) {i : Nat} (hi : i < bs.length) : w.cell? ⟨g, i, none⟩ = some (.bool (bs.getD i false)) := by
 rw [Blk.cell h]; simp [List.getD, hi]
theorem BBlk.set_ {w : World} {g : Nat} {bs : List Bool} (h : BBlk w g bs) (i : Nat) (x : Bool) : BBlk (w.setCell ⟨g, i, none⟩ (.bool x)) g (bs.set i x) := by
 have := Blk.set_ h i (.bool x)
 unfold BBlk
 rw [show ((bs.set i x).map Value.bool).toArray = (bs.map Value.bool).toArray.setIfInBounds i (.bool x) by simp [List.map_set]]
 exact this
theorem BBlk.new (w : World) (n : Nat) : BBlk (w.alloc (.cells (Array.replicate n (.bool false)) 4)) w.heap.size (List.replicate n false) := by
 unfold BBlk
 rw [show ((List.replicate n false).map Value.bool).toArray = Array.replicate n (.bool false) by simp]
 exact Blk.new _ _ _
def mk1 (x : Int) (bs : List Bool) : List Bool := if 0 < x ∧ x < (bs.length : Int) then bs.set x.toNat true else bs
theorem mk1_len (x : Int) (bs : List Bool) : (mk1 x bs).length = bs.length := by
 unfold mk1; split <;> simp
theorem markV_node (p : Pt) (bs : List Bool) : markV (nodes p) bs = markV (nodesL p.kids) (mk1 p.v bs) := by rw [nodes_eq]; rfl
theorem markI_node (p : Pt) (bs : List Bool) : markI (nodes p) bs = markI (nodesL p.kids) (mk1 p.iv bs) := by rw [nodes_eq]; rfl
theorem markV_len (l : List Pt) : ∀ bs : List Bool, (markV l bs).length = bs.length := by
 induction l with
 | nil => intro bs; rfl
 | cons p l ih => intro bs; show (markV l (mk1 p.v bs)).length = _; rw [ih, mk1_len]
theorem markI_len (l : List Pt) : ∀ bs : List Bool, (markI l bs).length = bs.length := by
 induction l with
 | nil => intro bs; rfl
 | cons p l ih => intro bs; show (markI l (mk1 p.iv bs)).length = _; rw [ih, mk1_len]
theorem markV_app (a b : List Pt) (bs : List Bool) : markV (a ++ b) bs = markV b (markV a bs) := by unfold markV; rw [List.foldl_append]
theorem markI_app (a b : List Pt) (bs : List Bool) : markI (a ++ b) bs = markI b (markI a bs) := by unfold markI; rw [List.foldl_append]
set_option maxRecDepth 100000 in
set_option maxHeartbeats 4000000 in
theorem r15occurring_c (p : Pt) : ∀ (w : World) (F : Nat → Prop) (KA : Option Addr) (kc gv c gi d : Nat) (bs cs : List Bool), PtK w F p KA kc → ¬ F gv → ¬ F gi → gv ≠ gi → BBlk w gv bs → BBlk w gi cs → p.size ≤ 1000000000000 →
  Calls Try.prog 32 #[pv p KA kc, .slice (some ⟨gv, 0, none⟩) bs.length c, .slice (some ⟨gi, 0, none⟩) cs.length d] w fun e w' => e = .returned (.tuple #[]) ∧ BBlk w' gv (markV (nodes p) bs) ∧ BBlk w' gi (markI (nodes p) cs) ∧ Upd (fun k => k = gv ∨ k = gi) w w' := by
 induction p using Pt.ind with
 | h p ih =>
  intro w F KA kc gv c gi d bs cs hp hFv hFi hne hgv hgi hs
  have HI := Lib.hid ih
  obtain ⟨W, HW⟩ := nm (w.alloc (.cells #[.int .i64 p.v, .int .i64 p.op, .int .i64 p.imm, .int .i64 p.iv, .slice KA p.kids.length kc] 30))
  have hU : Upd Non w W := by rw [← HW.out]; exact Upd.refl.alloc _
  have hb : Blk W w.heap.size 30 #[.int .i64 p.v, .int .i64 p.op, .int .i64 p.imm, .int .i64 p.iv, .slice KA p.kids.length kc] := by rw [← HW.out]; exact Blk.new _ _ _
  have e0 := HW.out
  have hvlt : gv < w.heap.size := Blk.lt hgv
  have hilt : gi < w.heap.size := Blk.lt hgi
  have hgv : BBlk W gv bs := Blk.upd hgv hU (fun f => f)
  have hgi : BBlk W gi cs := Blk.upd hgi hU (fun f => f)
  have hp := PtK.upd hU (fun _ _ _ f => f) p KA kc hp
  have HZ := Lib.hid (fun (k : Pt) (h : k ∈ p.kids) => Nat.le_trans (Nat.le_of_lt (Pt.kids_lt h)) hs)
  have hkl : p.kids.length ≤ 1000000000000 := by have h1 := Pt.len_le p.kids; have h2 := Pt.size_eq p; omega
  rw [markV_node, markI_node]
  have c0 := hb.cell 0
  have h2U : Upd (fun k => k = gv ∨ k = gi) w W := hU.mono (fun _ _ f => f.elim)
  unfold pv
  obtain ⟨v, Hv⟩ := nm p.v
  obtain ⟨op, Hop⟩ := nm p.op
  obtain ⟨imm, Him⟩ := nm p.imm
  obtain ⟨iv, Hiv⟩ := nm p.iv
  obtain ⟨k, Hk⟩ := nm p.kids.length
  rw [Hv.out] at c0 e0 hb
  rw [Hop.out] at e0 hb
  rw [Him.out] at e0 hb
  rw [Hiv.out] at e0 hb
  rw [Hk.out] at e0 hb hkl
  rw [Hv.out, Hop.out, Him.out, Hiv.out, Hk.out]
  obtain ⟨vn, Hvn⟩ := nm bs.length
  obtain ⟨mn, Hmn⟩ := nm cs.length
  rw [Hvn.out, Hmn.out]
  have hLV := mk1_len v bs
  have hLI := mk1_len iv cs
  obtain ⟨bs1, Hbs1⟩ := nm (mk1 v bs)
  obtain ⟨cs1, Hcs1⟩ := nm (mk1 iv cs)
  rw [Hvn.out, Hbs1.out] at hLV
  rw [Hmn.out, Hcs1.out] at hLI
  have HLV := Lib.hid hLV
  have HLI := Lib.hid hLI
  rw [Hbs1.out, Hcs1.out]
  clear ih hs hLV hLI
  go_enter Try.func32, Try.ntmps32
  obtain ⟨b1, f1⟩ : ∃ b, decide (0 < v) = b := ⟨_, rfl⟩
  obtain ⟨b2, f2⟩ : ∃ b, decide (v < (vn : Int)) = b := ⟨_, rfl⟩
  have F1 := Lib.hid f1
  have F2 := Lib.hid f2
  go_upto_region 1 with fail
  go_cut [16] (fun t wx => t = .bool (b1 && b2) ∧ wx = W)
  case first =>
   cases b1 with
   | false => go_wp2_with fail; go_meet; exact ⟨rfl, rfl⟩
   | true => cases b2 <;> (go_wp2_with fail; go_meet; exact ⟨rfl, rfl⟩)
  case rest =>
   obtain ⟨rfl, ew⟩ := hcut
   obtain rfl : W = _ := ew.symm
   clear f1 f2
   go_upto_if 16 with fail
   go_cut [] (fun wx => BBlk wx gv bs1 ∧ Upd (· = gv) W wx)
   case first =>
    cases hT : (b1 && b2) with
    | true =>
     have hb1 : b1 = true := by revert hT; cases b1 <;> simp
     have hb2 : b2 = true := by revert hT; cases b2 <;> simp
     have h1 : 0 < v := of_decide_eq_true (by rw [F1.out, hb1])
     have h2 : v < (vn : Int) := of_decide_eq_true (by rw [F2.out, hb2])
     obtain ⟨j, rfl⟩ : ∃ j : Nat, v = (j : Int) := Int.eq_ofNat_of_zero_le (by omega)
     have hj : j < bs.length := by rw [Hvn.out]; omega
     have hz := BBlk.cell hgv hj
     have hfr := Blk.frozen hgv
     have hE : bs.set j true = bs1 := by rw [← Hbs1.out]; unfold mk1; rw [if_pos ⟨h1, by rw [Hvn.out]; exact h2⟩]; rfl
     obtain ⟨W2, HW2⟩ := nm (W.setCell ⟨gv, j, none⟩ (.bool true))
     have hgv2 : BBlk W2 gv bs1 := by rw [← HW2.out, ← hE]; exact BBlk.set_ hgv j true
     have u2 : Upd (· = gv) W W2 := by rw [← HW2.out]; exact updCell _ _ _ _
     have e2 := HW2.out
     have HE := Lib.hid hgv2
     have hj2 : j < vn := by omega
     have hT2 := Lib.hid hT
     clear hE hgv2 hgv hb1 hb2 hT h1 h2
     go_wp2_with fail
     go_meet
     case rel => exact ⟨HE.out, u2⟩
    | false =>
     have hE : bs = bs1 := by
      rw [← Hbs1.out]; unfold mk1
      rw [if_neg]
      rw [Hvn.out]
      rintro ⟨h1, h2⟩
      have a1 := F1.out
      have a2 := F2.out
      rw [decide_eq_true h1] at a1
      rw [decide_eq_true h2] at a2
      rw [← a1, ← a2] at hT
      cases hT
     have HE := Lib.hid hE
     clear hE
     go_wp2_with fail
     go_meet
     case rel => exact ⟨by rw [← HE.out]; exact hgv, Upd.refl⟩
   case rest =>
    obtain ⟨hgv1, u1⟩ := hcut
    have hbc := hb.upd u1 (by omega)
    have hgi1 : BBlk wc gi cs := Blk.upd hgi u1 (fun e => hne e.symm)
    have hp1 := PtK.upd u1 (fun q _ hq e => hFv (by rw [← e]; exact hq)) p KA kc hp
    have HU1 := h2U.trans u1 (fun q _ h => .inl h)
    have hsc := u1.size
    have c0 := hbc.cell 0
    have c3 := hbc.cell 3
    have c4 := hbc.cell 4
    obtain ⟨b3, f3⟩ : ∃ b, decide (0 < iv) = b := ⟨_, rfl⟩
    obtain ⟨b4, f4⟩ : ∃ b, decide (iv < (mn : Int)) = b := ⟨_, rfl⟩
    have F3 := Lib.hid f3
    have F4 := Lib.hid f4
    clear hb
    obtain ⟨wd, rfl⟩ : ∃ wd : World, wd = wc := ⟨_, rfl⟩
    go_upto_region 3 with fail
    go_cut [30] (fun t wx => t = .bool (b3 && b4) ∧ wx = wd)
    case first =>
     cases b3 with
     | false => go_wp2_with fail; go_meet; exact ⟨rfl, rfl⟩
     | true => cases b4 <;> (go_wp2_with fail; go_meet; exact ⟨rfl, rfl⟩)
    case rest =>
     obtain ⟨rfl, ew⟩ := hcut
     obtain rfl : wd = _ := ew.symm
     clear f3 f4
     go_upto_if 30 with fail
     go_cut [] (fun wx => BBlk wx gi cs1 ∧ Upd (· = gi) wd wx)
     case first =>
      cases hT : (b3 && b4) with
      | true =>
       have hb1 : b3 = true := by revert hT; cases b3 <;> simp
       have hb2 : b4 = true := by revert hT; cases b4 <;> simp
       have h1 : 0 < iv := of_decide_eq_true (by rw [F3.out, hb1])
       have h2 : iv < (mn : Int) := of_decide_eq_true (by rw [F4.out, hb2])
       obtain ⟨j, rfl⟩ : ∃ j : Nat, iv = (j : Int) := Int.eq_ofNat_of_zero_le (by omega)
       have hj : j < cs.length := by rw [Hmn.out]; omega
       have hz := BBlk.cell hgi1 hj
       have hfr := Blk.frozen hgi1
       have hE : cs.set j true = cs1 := by rw [← Hcs1.out]; unfold mk1; rw [if_pos ⟨h1, by rw [Hmn.out]; exact h2⟩]; rfl
       obtain ⟨W2, HW2⟩ := nm (wd.setCell ⟨gi, j, none⟩ (.bool true))
       have hgi2 : BBlk W2 gi cs1 := by rw [← HW2.out, ← hE]; exact BBlk.set_ hgi1 j true
       have u2 : Upd (· = gi) wd W2 := by rw [← HW2.out]; exact updCell _ _ _ _
       have e2 := HW2.out
       have HE := Lib.hid hgi2
       have hj2 : j < mn := by omega
       have hT2 := Lib.hid hT
       clear hE hgi2 hb1 hb2 hT h1 h2
       go_wp2_with fail
       go_meet
       case rel => exact ⟨HE.out, u2⟩
      | false =>
       have hE : cs = cs1 := by
        rw [← Hcs1.out]; unfold mk1
        rw [if_neg]
        rw [Hmn.out]
        rintro ⟨h1, h2⟩
        have a1 := F3.out
        have a2 := F4.out
        rw [decide_eq_true h1] at a1
        rw [decide_eq_true h2] at a2
        rw [← a1, ← a2] at hT
        cases hT
       have HE := Lib.hid hE
       clear hE
       go_wp2_with fail
       go_meet
       case rel => exact ⟨by rw [← HE.out]; exact hgi1, Upd.refl⟩
     case rest =>
      obtain ⟨W4, rfl⟩ : ∃ W4 : World, W4 = wc := ⟨_, rfl⟩
      obtain ⟨hgi2, u2⟩ := hcut
      have hbc2 := hbc.upd u2 (by omega)
      have hgv2 : BBlk W4 gv bs1 := Blk.upd hgv1 u2 hne
      have hp4 := PtK.upd u2 (fun q _ hq e => hFi (by rw [← e]; exact hq)) p KA kc hp1
      have HU4 := HU1.trans u2 (fun q _ h => .inr h)
      have hs4 := u2.size
      have c4 := hbc2.cell 4
      have hgi2 := Lib.hid hgi2
      have hgv2 := Lib.hid hgv2
      clear hgv1 hgi1 hp1 c0 c3 hbc u1 hgv hgi
      go_wp2_with fail
      go_loopg [6] k (fun g i wr => ∃ q : Nat, Hid (g = k - q) ∧ q ≤ k ∧ i = .int .i64 q ∧ Hid (BBlk wr gv (markV (nodesL (p.kids.take q)) bs1)) ∧ Hid (BBlk wr gi (markI (nodesL (p.kids.take q)) cs1)) ∧ Upd (fun q => q = gv ∨ q = gi) W4 wr)
      case atStart => exact ⟨0, rfl, by omega, rfl, hgv2.out, hgi2.out, Upd.refl⟩
      case round =>
       obtain ⟨q, Hg, hq, rfl, HV, HM, hu⟩ := hrel
       have d4 := (hbc2.upd hu (by omega)).cell 4
       by_cases hlt : q < k
       ·
        have hql : q < p.kids.length := by rw [Hk.out]; exact hlt
        have hpr := PtK.upd hu (fun q _ hq e => by rcases e with rfl | rfl; exact hFv hq; exact hFi hq) p KA kc hp4
        obtain ⟨b, o, rfl, hF, hbw, KB, kd, h0, h1, h2, h3, h4, h5⟩ := hpr.at_ hql
        have HTK : Hid (p.kids.take (q + 1) = p.kids.take q ++ [p.kids[q]]) := take_snoc' hql
        have hmem := List.getElem_mem hql
        generalize p.kids[q] = t at *
        have hts := HZ.out t hmem
        have C1 := Lib.hid (HI.out t hmem wr F KB kd gv c gi d (markV (nodesL (p.kids.take q)) bs1) (markI (nodesL (p.kids.take q)) cs1) h5 hFv hFi hne HV.out HM.out hts)
        rw [markV_len, markI_len, HLV.out, HLI.out] at C1
        unfold pv at C1
        have HV2 : Hid (markV (nodes t) (markV (nodesL (p.kids.take q)) bs1) = markV (nodesL (p.kids.take (q + 1))) bs1) := by show _ = _; rw [HTK.out, nodesL_snoc, markV_app]
        have HM2 : Hid (markI (nodes t) (markI (nodesL (p.kids.take q)) cs1) = markI (nodesL (p.kids.take (q + 1))) cs1) := by show _ = _; rw [HTK.out, nodesL_snoc, markI_app]
        rw [HV2.out, HM2.out] at C1
        clear h5 HV HM HTK hmem
        go_wp2_with fail
        refine C1.out.mono ?_
        rintro e w7 ⟨rfl, hv7, hm7, hu7⟩
        have HV7 := Lib.hid hv7
        have HM7 := Lib.hid hm7
        have HU7 : Upd (fun q => q = gv ∨ q = gi) W4 w7 := hu.trans hu7 (fun _ _ h => h)
        clear hv7 hm7 C1
        go_wp2_with fail
        go_roundg (k - (q + 1))
        case measure => rw [Hg.out]; omega
        case rel => exact ⟨q + 1, rfl, by omega, by go_num, HV7.out, HM7.out, HU7⟩
       ·
        obtain rfl : k = q := by omega
        have HT : Hid (p.kids.take k = p.kids) := List.take_of_length_le (by rw [Hk.out]; exact Nat.le_refl _)
        rw [HT.out] at HV HM
        have HU := HU4.trans hu (fun _ _ h => h)
        go_wp2_with fail
        go_end0
        exact ⟨rfl, HV.out, HM.out, HU⟩
end Go.Proofs.Ytblkgjdhaibhgaa
