/-
  Print walked.
-/
import Derived.Test.YtblkgjdhaibhgaaPrtQ
import Derived.Test.YtblkgjdhaibhgaaEqP
namespace Go.Proofs.Ytblkgjdhaibhgaa
open Go.RowKit

/-- What a rule's text begins with. -/
def hdF (r : Rl) : Bs := [114, 117, 108, 101, 32] ++ kx r.name ++ [58, 32] ++ fmtF r.l ++ [32, 61, 62, 32] ++ fmtF r.r
theorem fmtR_hd (r : Rl) : fmtR r = hdF r ++ fmtCs r.conds true ++ [59, 10] := rfl
theorem hd_eq (r : Rl) : kx ((((({ data := #[114, 117, 108, 101, 32] } : ByteArray) ++ r.name) ++ { data := #[58, 32] }) ++ kstr (fmtF r.l)) ++ { data := #[32, 61, 62, 32] } ++ kstr (fmtF r.r)) = hdF r := by
  simp [kx, kstr, hdF]
theorem hdF_len {r : Rl} (h : FmR r) : (hdF r).length ≤ 1600 := by
  have e1 := fmtF_len _ h.l
  have e2 := fmtF_len _ h.r
  have e5 := h.ls
  have e6 := h.rs
  have e7 : (kx r.name).length ≤ 16 := by rw [kx_len]; exact h.n
  unfold hdF
  simp only [List.length_append, List.length_cons, List.length_nil]
  omega
set_option maxRecDepth 100000 in
set_option maxHeartbeats 2000000 in
theorem rPrint_c (w : World) (F : Nat → Prop) (A : Option Addr) (c : Nat) (L : List Rl) (hv : RlsV w F A L) (hz : ∀ r ∈ L, RlSz r) (hi : ∀ r ∈ L, RlI r) (hn : L.length ≤ 1000000) :
    Calls Try.prog 8 #[.slice A L.length c] w fun e w' => e = .returned (.string (kstr (printF L))) ∧ Upd Non w w' := by
  have HV := Lib.hid hv
  have HZ := Lib.hid hz
  have HI := Lib.hid hi
  obtain ⟨res, Hres⟩ := nm (kstr (printF L))
  rw [Hres.out]
  obtain ⟨n, Hn⟩ := nm L.length
  rw [Hn.out] at hn ⊢
  clear hv hz hi
  go_enter Try.func8, Try.ntmps8
  go_wp2_with fail
  go_loopg [3, 5, 6, 7, 8, 11] n (fun g v _ _ _ _ iv wr => ∃ (k : Nat) (BA : Option Addr) (bc : Nat) (bs : Bs), Hid (g = n - k) ∧ k ≤ n ∧ iv = .int .i64 k ∧ v = .slice BA bs.length bc ∧ Hid (Own wr 5 1 BA bs.length bc (u8s bs)) ∧ Hid (∀ q, At BA q → w.heap.size ≤ q) ∧ Hid (bs = fmtRs (L.take k)) ∧ bs.length ≤ 2000 * k ∧ Hid (∀ r ∈ L.take k, implF r = true) ∧ Hid (Upd Non w wr))
  case atStart => exact ⟨0, none, 0, [], rfl, Nat.zero_le _, rfl, rfl, Own.none_, fun _ q => (At.none_ q).elim, rfl, by simp, fun r hr => by simp at hr, Upd.refl⟩
  case round =>
    obtain ⟨k, BA, bc, bs, Hg, hk, rfl, rfl, HO, HA, HB, hbl, HI2, HU⟩ := hrel
    by_cases hlt : k < n
    · have hkl : k < L.length := by rw [Hn.out]; exact hlt
      obtain ⟨b, o, a, rfl, _, hbw0, hat0, hrk0⟩ := HV.out.at_ hkl
      have hbw : b < wr.heap.size := Nat.lt_of_lt_of_le hbw0 HU.out.size
      have hat := hat0.upd HU.out (fun f => f)
      have hrk := hrk0.upd HU.out (fun _ _ _ f => f)
      have HRW := Lib.hid hrk0
      clear hat0 hrk0 hbw0
      unfold RlAt at hat
      have HRZ := Lib.hid (HZ.out _ (List.getElem_mem hkl))
      have HRI := Lib.hid (HI.out _ (List.getElem_mem hkl))
      have HTK : Hid (L.take (k + 1) = L.take k ++ [L[k]]) := take_snoc' hkl
      have HME : Hid (L[k] ∈ L) := List.getElem_mem hkl
      generalize L[k] = r at *
      obtain ⟨x0, x1, x2, x3, x4, x5, x6, x7, x8, x9, x10, x11, x12, x13⟩ := hat
      have CV := Lib.hid (rlValid_c r a F _ (hrk.upd (Upd.refl.alloc (S := Non) (.cells (rlCells r a) 33)) (fun _ _ _ f => f)) HRZ.out)
      have hb3 := Blk.new wr 33 (rlCells r a)
      have HB3 := Lib.hid hb3
      have HRK := Lib.hid hrk
      unfold rlv rlCells at CV
      obtain ⟨v, Hv⟩ := nm (implF r)
      rw [Hv.out] at CV
      clear hb3 hrk
      go_wp2_with fail
      refine CV.out.mono ?_
      rintro e w4 ⟨rfl, hu4⟩
      clear CV x0 x1 x2 x3 x4 x5 x6 x7 x8 x9 x10 x11 x12 x13
      have HU4 := Lib.hid ((HU.out.alloc (.cells (rlCells r a) 33)).then_non hu4)
      have HB4 := Lib.hid (HB3.out.upd hu4 (fun f => f))
      have u34 : Upd Non wr w4 := (Upd.refl.alloc (S := Non) (.cells (rlCells r a) 33)).then_non hu4
      have HO4 := Lib.hid (Own.upd HO.out u34 (fun _ _ f => f))
      have HRK4 := Lib.hid (HRK.out.upd u34 (fun _ _ _ f => f))
      clear HO HB3 HRK hu4 u34
      cases v with
      | false =>
        go_wp2_with fail
        go_ret
        refine ⟨?_, HU4.out⟩
        rw [← Hres.out, show printF L = [] from if_neg (fun q => by have := List.all_eq_true.1 q r HME.out; rw [Hv.out] at this; cases this)]
        rfl
      | true =>
        have HF := Lib.hid (impl_fm Hv.out HRI.out)
        have hnl : r.name.size ≤ 16 := HF.out.n
        have hlz : r.l.size ≤ 24 := HF.out.ls
        have hrz : r.r.size ≤ 24 := HF.out.rs
        have hl1 : (kstr (fmtF r.l)).size ≤ 720 := ksz (by have := fmtF_len _ HF.out.l; omega)
        have hl2 : (kstr (fmtF r.r)).size ≤ 720 := ksz (by have := fmtF_len _ HF.out.r; omega)
        have CL := Lib.hid (fun W (u : Upd Non w4 W) => rFormat_c r.l W F a.la a.lc (PtK.upd u (fun _ _ _ f => f) _ _ _ HRK4.out.l) HF.out.l (by omega))
        have CR := Lib.hid (fun W (u : Upd Non w4 W) => rFormat_c r.r W F a.ra a.rc (PtK.upd u (fun _ _ _ f => f) _ _ _ HRK4.out.r) HF.out.r (by omega))
        have HE := Lib.hid (hd_eq r)
        have hsz : (hdF r).length ≤ 1600 := hdF_len HF.out
        obtain ⟨f1, Hf1⟩ := nm (kstr (fmtF r.l))
        obtain ⟨f2, Hf2⟩ := nm (kstr (fmtF r.r))
        rw [Hf1.out] at CL HE hl1
        rw [Hf2.out] at CR HE hl2
        unfold pv at CL CR
        have HAO := HA
        go_upto_region 7 with fail
        go_cut [3] (fun v wx => ∃ (BB : Option Addr) (bb : Nat) (bs2 : Bs), v = .slice BB bs2.length bb ∧ Hid (Own wx 5 1 BB bs2.length bb (u8s bs2)) ∧ Hid (∀ q, At BB q → w.heap.size ≤ q) ∧ Hid (bs2 = bs ++ hdF r) ∧ Hid (Upd (At BA) w4 wx))
        case first =>
          obtain ⟨wD, HwD⟩ := nm w4.drew
          have uD : Upd Non w4 wD := by rw [← HwD.out]; exact Upd.refl.drew
          have hbD := HB4.out.upd uD (fun f => f)
          unfold rlCells at hbD
          have hq1 : ¬ (9223372036854775807 < 5 + r.name.size) := by omega
          have hq2 : ¬ (9223372036854775807 < 5 + r.name.size + 2) := by omega
          have hq3 : ¬ (9223372036854775807 < 5 + r.name.size + 2 + f1.size) := by omega
          have hq4 : ¬ (9223372036854775807 < 5 + r.name.size + 2 + f1.size + 4) := by omega
          have hq5 : ¬ (9223372036854775807 < 5 + r.name.size + 2 + f1.size + 4 + f2.size) := by omega
          refine wp_region_held_drew (S := fun w' => w'.cell? ⟨wr.heap.size, 0, none⟩ = some (.string r.name) ∧ w'.cell? ⟨wr.heap.size, 1, none⟩ = some (.int .i64 r.l.v) ∧ w'.cell? ⟨wr.heap.size, 2, none⟩ = some (.int .i64 r.l.op) ∧ w'.cell? ⟨wr.heap.size, 3, none⟩ = some (.int .i64 r.l.imm) ∧ w'.cell? ⟨wr.heap.size, 4, none⟩ = some (.int .i64 r.l.iv) ∧ w'.cell? ⟨wr.heap.size, 5, none⟩ = some (.slice a.la r.l.kids.length a.lc) ∧ w'.cell? ⟨wr.heap.size, 6, none⟩ = some (.int .i64 r.r.v) ∧ w'.cell? ⟨wr.heap.size, 7, none⟩ = some (.int .i64 r.r.op) ∧ w'.cell? ⟨wr.heap.size, 8, none⟩ = some (.int .i64 r.r.imm) ∧ w'.cell? ⟨wr.heap.size, 9, none⟩ = some (.int .i64 r.r.iv) ∧ w'.cell? ⟨wr.heap.size, 10, none⟩ = some (.slice a.ra r.r.kids.length a.rc)) (by kernel_rfl) (by rw [HwD.out]; exact ⟨hbD.cell 0, hbD.cell 1, hbD.cell 2, hbD.cell 3, hbD.cell 4, hbD.cell 5, hbD.cell 6, hbD.cell 7, hbD.cell 8, hbD.cell 9, hbD.cell 10⟩) (fun hHeld => ?_)
          rw [HwD.out] at hHeld ⊢
          refine wpAnyH_take (i := 0) (v := ?_) rfl (by kernel_rfl) (by kernel_rfl) (by kernel_rfl) (fun _ _ _ h => h) (Or.inl ⟨by rfl, ?_⟩) (by assumption) ?_
          rotate_left
          · intro w hSw; (try dsimp only at hSw); go_simp; try with_reducible rfl
          try simp only [put_y]
          try simp only [Act.put]
          try simp only [put_z]
          refine wpAnyH_take (i := 1) (v := ?_) rfl (by kernel_rfl) (by kernel_rfl) (by kernel_rfl) (fun _ _ _ h => h) (Or.inl ⟨by rfl, ?_⟩) (by assumption) ?_
          rotate_left
          · intro w hSw; (try dsimp only at hSw); go_simp; try with_reducible rfl
          try simp only [put_y]
          try simp only [Act.put]
          try simp only [put_z]
          refine wpAnyH_take (i := 2) (v := ?_) rfl (by kernel_rfl) (by kernel_rfl) (by kernel_rfl) (fun _ _ _ h => h) (Or.inl ⟨by rfl, ?_⟩) (by assumption) ?_
          rotate_left
          · intro w hSw; (try dsimp only at hSw); go_simp; try with_reducible rfl
          try simp only [put_y]
          try simp only [Act.put]
          try simp only [put_z]
          refine wpAnyH_take (i := 3) (v := ?_) rfl (by kernel_rfl) (by kernel_rfl) (by kernel_rfl) (fun _ _ _ h => h) (Or.inl ⟨by rfl, ?_⟩) (by assumption) ?_
          rotate_left
          · intro w hSw; (try dsimp only at hSw); go_simp; try with_reducible rfl
          try simp only [put_y]
          try simp only [Act.put]
          try simp only [put_z]
          refine wpAnyH_take (i := 4) (v := ?_) rfl (by kernel_rfl) (by kernel_rfl) (by kernel_rfl) (fun _ _ _ h => h) (Or.inl ⟨by rfl, ?_⟩) (by assumption) ?_
          rotate_left
          · intro w hSw; (try dsimp only at hSw); go_simp; try with_reducible rfl
          try simp only [put_y]
          try simp only [Act.put]
          try simp only [put_z]
          refine wpAnyH_take (i := 5) (v := ?_) rfl (by kernel_rfl) (by kernel_rfl) (by kernel_rfl) (fun _ _ _ h => h) (Or.inl ⟨by rfl, ?_⟩) (by assumption) ?_
          rotate_left
          · intro w hSw; (try dsimp only at hSw); go_simp; try with_reducible rfl
          try simp only [put_y]
          try simp only [Act.put]
          try simp only [put_z]
          refine wpAnyH_take (i := 6) (v := ?_) rfl (by kernel_rfl) (by kernel_rfl) (by kernel_rfl) (fun _ _ _ h => h) (Or.inl ⟨by rfl, ?_⟩) (by assumption) ?_
          rotate_left
          · intro w hSw; (try dsimp only at hSw); go_simp; try with_reducible rfl
          try simp only [put_y]
          try simp only [Act.put]
          try simp only [put_z]
          refine wpAnyH_take (i := 10) (v := ?_) rfl (by kernel_rfl) (by kernel_rfl) (by kernel_rfl) (fun _ _ _ h => h) (Or.inl ⟨by rfl, ?_⟩) (by assumption) ?_
          rotate_left
          · intro w hSw; (try dsimp only at hSw); go_simp; try with_reducible rfl
          try simp only [put_y]
          try simp only [Act.put]
          try simp only [put_z]
          refine wpAnyH_take (i := 11) (v := ?_) rfl (by kernel_rfl) (by kernel_rfl) (by kernel_rfl) (fun _ _ _ h => h) (Or.inl ⟨by rfl, ?_⟩) (by assumption) ?_
          rotate_left
          · intro w hSw; (try dsimp only at hSw); go_simp; try with_reducible rfl
          try simp only [put_y]
          try simp only [Act.put]
          try simp only [put_z]
          refine wpAnyH_ready (rs := [7]) (by kernel_rfl) (by simp) ?_
          refine AllReadyH.cons rfl (fun K hK => ?_) AllReadyH.nil
          go_simp
          refine (CL.out _ uD).mono ?_
          rintro e w5 ⟨rfl, u5⟩
          have h5 : Upd Non w4 w5 := uD.then_non u5
          have hb5 := HB4.out.upd h5 (fun f => f)
          unfold rlCells at hb5
          go_wp2_with fail
          refine hK.out _ _ ?_ (fun hHeld => ?_)
          · exact ⟨hb5.cell 0, hb5.cell 1, hb5.cell 2, hb5.cell 3, hb5.cell 4, hb5.cell 5, hb5.cell 6, hb5.cell 7, hb5.cell 8, hb5.cell 9, hb5.cell 10⟩
          clear hK K
          try simp only [put_y]
          try simp only [Act.put]
          try simp only [put_z]
          refine wpAnyH_take (i := 8) (v := ?_) rfl (by kernel_rfl) (by kernel_rfl) (by kernel_rfl) (fun _ _ _ h => h) (Or.inl ⟨by rfl, ?_⟩) (by assumption) ?_
          rotate_left
          · intro w hSw; (try dsimp only at hSw); go_simp; try with_reducible rfl
          try simp only [put_y]
          try simp only [Act.put]
          try simp only [put_z]
          refine wpAnyH_take (i := 9) (v := ?_) rfl (by kernel_rfl) (by kernel_rfl) (by kernel_rfl) (fun _ _ _ h => h) (Or.inl ⟨by rfl, ?_⟩) (by assumption) ?_
          rotate_left
          · intro w hSw; (try dsimp only at hSw); go_simp; try with_reducible rfl
          try simp only [put_y]
          try simp only [Act.put]
          try simp only [put_z]
          refine wpAnyH_ready (rs := [12]) (by kernel_rfl) (by simp) ?_
          refine AllReadyH.cons rfl (fun K hK => ?_) AllReadyH.nil
          go_simp
          refine (CR.out _ h5).mono ?_
          rintro e w6 ⟨rfl, u6⟩
          have h6 : Upd Non w4 w6 := h5.then_non u6
          have hb6 := HB4.out.upd h6 (fun f => f)
          unfold rlCells at hb6
          go_wp2_with fail
          refine hK.out _ _ ?_ (fun hHeld => ?_)
          · exact ⟨hb6.cell 0, hb6.cell 1, hb6.cell 2, hb6.cell 3, hb6.cell 4, hb6.cell 5, hb6.cell 6, hb6.cell 7, hb6.cell 8, hb6.cell 9, hb6.cell 10⟩
          clear hK K
          try simp only [put_y]
          try simp only [Act.put]
          try simp only [put_z]
          refine wpAnyH_take (i := 13) (v := ?_) rfl (by kernel_rfl) (by kernel_rfl) (by kernel_rfl) (fun _ _ _ h => h) (Or.inl ⟨by rfl, ?_⟩) (by assumption) ?_
          rotate_left
          · intro w hSw; (try dsimp only at hSw); go_simp; try with_reducible rfl
          try simp only [put_y]
          try simp only [Act.put]
          try simp only [put_z]
          refine wpAnyH_ready (rs := [14]) (by kernel_rfl) (by simp) ?_
          refine AllReadyH.cons rfl (fun K hK => ?_) AllReadyH.nil
          have ho6 := Own.upd HO4.out h6 (fun _ _ f => f)
          have hs6 := h6.size
          have hU6 := HU4.out.size
          have hsq : ((((({ data := #[114, 117, 108, 101, 32] } : ByteArray) ++ r.name) ++ { data := #[58, 32] }) ++ f1) ++ { data := #[32, 61, 62, 32] } ++ f2).size ≤ 1600 := by rw [← kx_len, HE.out]; exact hsz
          refine step_apps rfl rfl rfl ho6 HA.out (by omega) rfl (by omega) ?_
          intro BB bb w7 ho7 hu7 hat7
          rw [HE.out] at ho7
          have h7 : Upd (At BA) w4 w7 := (h6.mono (fun _ _ f => f.elim)).trans hu7 (fun _ _ q => q)
          have hne : ¬ At BA wr.heap.size := Own.ne_blk ho6 hb6 (by decide)
          have hb7 := hb6.upd hu7 hne
          refine hK.out _ _ ?_ (fun hHeld => ?_)
          · exact ⟨hb7.cell 0, hb7.cell 1, hb7.cell 2, hb7.cell 3, hb7.cell 4, hb7.cell 5, hb7.cell 6, hb7.cell 7, hb7.cell 8, hb7.cell 9, hb7.cell 10⟩
          clear hK K
          try simp only [put_y]
          try simp only [Act.put]
          try simp only [put_z]
          refine wpAnyH_take (i := 15) (v := ?_) rfl (by kernel_rfl) (by kernel_rfl) (by kernel_rfl) (fun _ _ _ h => h) (Or.inl ⟨by rfl, ?_⟩) (by assumption) ?_
          rotate_left
          · intro w hSw; (try dsimp only at hSw); go_simp; try with_reducible rfl
          try simp only [put_y]
          try simp only [Act.put]
          try simp only [put_z]
          refine wpAnyH_done (by kernel_rfl) ?_ _
          have HLE : Hid ((((((({ data := #[114, 117, 108, 101, 32] } : ByteArray) ++ r.name) ++ { data := #[58, 32] }) ++ f1) ++ { data := #[32, 61, 62, 32] } ++ f2).size = (hdF r).length)) := by show _ = _; rw [← kx_len, HE.out]
          have HLS : Hid (5 + r.name.size + 2 + f1.size + 4 + f2.size = (hdF r).length) := by
            show _ = _
            rw [← HLE.out]
            simp only [ByteArray.size_append', ByteArray.size_mk']
            rfl
          have HO7 := Lib.hid ho7
          have HU7 := Lib.hid h7
          have HA7 := Lib.hid hat7
          clear ho7 hu7 hat7 h7 hb7 hb6 hb5 hbD ho6 h6 h5 uD hq1 hq2 hq3 hq4 hq5
          go_wp2_with fail
          go_meet
          case rel =>
            refine ⟨BB, bb, bs ++ hdF r, ?_, ?_, HA7, rfl, HU7⟩
            · rw [List.length_append, ← HLS.out]
            · show Own _ _ _ _ _ _ _
              have := HO7.out
              rw [HLE.out] at this
              rw [List.length_append]
              exact this
        case rest =>
          clear CL CR HE hl1 hl2
          obtain ⟨BB, bb, bs2, rfl, HO, HA, HBS, HUC⟩ := hcut
          have hne : ¬ At BA wr.heap.size := Own.ne_blk HO4.out HB4.out (by decide)
          have hbc := HB4.out.upd HUC.out hne
          unfold rlCells at hbc
          have c11 := hbc.cell 11
          have hwlt : w.heap.size ≤ wr.heap.size := HU.out.size
          have HUW : Hid (Upd Non w wc) := HU4.out.trans HUC.out (fun q hq e => by have := HAO.out q e; omega)
          obtain ⟨m, Hm⟩ := nm r.conds.length
          obtain ⟨ca, Hca⟩ := nm a.ca
          rw [Hm.out, Hca.out] at c11
          have hm6 : m ≤ 6 := by rw [← Hm.out]; exact HF.out.few
          have hb2l : bs2.length ≤ 2000 * k + 1600 := by rw [HBS.out, List.length_append]; omega
          clear hbc
          go_wp2_with fail
          go_loopg [3, 6, 7, 8, 36] m (fun g v _ _ _ iv wq => ∃ (q : Nat) (BB : Option Addr) (bb : Nat) (b3 : Bs), Hid (g = m - q) ∧ q ≤ m ∧ iv = .int .i64 q ∧ v = .slice BB b3.length bb ∧ Hid (Own wq 5 1 BB b3.length bb (u8s b3)) ∧ Hid (∀ q, At BB q → w.heap.size ≤ q) ∧ Hid (b3 = bs2 ++ fmtCs (r.conds.take q) true) ∧ b3.length ≤ bs2.length + 50 * q ∧ Hid (Upd Non w wq))
          case atStart => exact ⟨0, BB, bb, bs2, rfl, Nat.zero_le _, rfl, rfl, HO, HA, by show _ = _; simp [fmtCs], by omega, HUW⟩
          case round =>
            clear HO HA HUC HUW hne c11
            obtain ⟨q, BB, bb, b3, Hgq, hq, rfl, rfl, HO, HA, HB3, hb3l, HUQ⟩ := hrel
            by_cases hqt : q < m
            · have hql : q < r.conds.length := by rw [Hm.out]; exact hqt
              have htk := (HRW.out.c.upd HUQ.out (fun _ _ _ f => f)).take hql
              rw [Hca.out] at htk
              obtain ⟨b', o', rfl, hbw', y0, y1, y2, y3⟩ := htk
              have HCF := Lib.hid (HF.out.c _ (List.getElem_mem hql))
              have HTC : Hid (r.conds.take (q + 1) = r.conds.take q ++ [r.conds[q]]) := take_snoc' hql
              generalize r.conds[q] = cd at *
              have CFC := Lib.hid (rFormatCond_c cd HCF.out (wr.alloc (.cells #[.int .i64 cd.kind, .int .i64 cd.a, .int .i64 cd.b, .int .i64 cd.n] 66)))
              have hzc : (kstr (fmtC cd)).size ≤ 40 := ksz (fmtC_len HCF.out)
              have HKC : Hid (kx (kstr (fmtC cd)) = fmtC cd) := kx_kstr _
              obtain ⟨fc, Hfc⟩ := nm (kstr (fmtC cd))
              rw [Hfc.out] at CFC hzc HKC
              by_cases hq0 : q = 0
              · have tq : ((q : Int) == 0) = true := by simp; omega
                have HE : Hid (kx (({ data := #[32, 105, 102, 32] } : ByteArray) ++ fc) = (if true && (r.conds.take q).isEmpty then [32, 105, 102, 32] else [44, 32]) ++ fmtC cd) := by
                  show _ = _
                  rw [show (true && (r.conds.take q).isEmpty) = true by rw [hq0]; rfl, if_pos rfl]
                  rw [← HKC.out]
                  simp [kx]
                have hsz : (({ data := #[32, 105, 102, 32] } : ByteArray) ++ fc).size ≤ 44 := by rw [ByteArray.size_append']; show 4 + fc.size ≤ 44; omega
                clear hq0
                have hsl : w.heap.size ≤ wr.heap.size := HUQ.out.size
                go_wp2_with fail
                refine CFC.out.mono ?_
                rintro e w8 ⟨rfl, hu8⟩
                have ua : Upd Non wr w8 := (Upd.refl.alloc (S := Non) (.cells #[.int .i64 cd.kind, .int .i64 cd.a, .int .i64 cd.b, .int .i64 cd.n] 66)).then_non hu8
                have hsl8 : w.heap.size ≤ w8.heap.size := Nat.le_trans hsl ua.size
                have ho8 := Own.upd HO.out ua (fun _ _ f => f)
                clear CFC hu8 y0 y1 y2 y3
                go_wp2_with (at_builtin; refine wpList_apps rfl rfl rfl ho8 HA.out hsl8 rfl (by omega) ?_; intro B4 b4 w9 ho9 hu9 hat9)
                rw [HE.out] at ho9
                have HU9 : Hid (Upd Non w w9) := (HUQ.out.then_non ua).trans hu9 (fun j hj e => by have := HA.out j e; omega)
                have HLN : Hid ((({ data := #[32, 105, 102, 32] } : ByteArray) ++ fc).size = ((if true && (r.conds.take q).isEmpty then [32, 105, 102, 32] else [44, 32]) ++ fmtC cd).length) := by show _ = _; rw [← HE.out, kx_len]
                have HLM : Hid (4 + fc.size = ((if true && (r.conds.take q).isEmpty then [32, 105, 102, 32] else [44, 32]) ++ fmtC cd).length) := by
                  show _ = _
                  rw [← HLN.out, ByteArray.size_append']
                  rfl
                have hs44 : 4 + fc.size ≤ 44 := by omega
                rw [HLN.out] at ho9
                have HO9 := Lib.hid ho9
                have HA9 := Lib.hid hat9
                clear ho9 hu9 hat9 ho8 ua hsz
                go_roundg (m - (q + 1))
                case measure => rw [Hgq.out]; omega
                case rel =>
                  refine ⟨q + 1, B4, b4, b3 ++ ((if true && (r.conds.take q).isEmpty then [32, 105, 102, 32] else [44, 32]) ++ fmtC cd), rfl, by omega, by go_num, by rw [List.length_append, ← HLM.out], ?_, HA9.out, ?_, ?_, HU9⟩
                  · show Own _ _ _ _ _ _ _
                    rw [List.length_append]
                    exact HO9.out
                  · show _ = _
                    rw [HTC.out, fmtCs_snoc, HB3.out, List.append_assoc]
                  · rw [List.length_append, ← HLM.out]
                    omega
              · have tq : ((q : Int) == 0) = false := by simp; omega
                have HE : Hid (kx (({ data := #[44, 32] } : ByteArray) ++ fc) = (if true && (r.conds.take q).isEmpty then [32, 105, 102, 32] else [44, 32]) ++ fmtC cd) := by
                  show _ = _
                  rw [show (true && (r.conds.take q).isEmpty) = false by rw [Bool.true_and, List.isEmpty_eq_false_iff]; intro ht; have := congrArg List.length ht; rw [List.length_take] at this; simp only [List.length_nil] at this; omega, if_neg (by decide)]
                  rw [← HKC.out]
                  simp [kx]
                have hsz : (({ data := #[44, 32] } : ByteArray) ++ fc).size ≤ 44 := by rw [ByteArray.size_append']; show 2 + fc.size ≤ 44; omega
                clear hq0
                have hsl : w.heap.size ≤ wr.heap.size := HUQ.out.size
                go_wp2_with fail
                refine CFC.out.mono ?_
                rintro e w8 ⟨rfl, hu8⟩
                have ua : Upd Non wr w8 := (Upd.refl.alloc (S := Non) (.cells #[.int .i64 cd.kind, .int .i64 cd.a, .int .i64 cd.b, .int .i64 cd.n] 66)).then_non hu8
                have hsl8 : w.heap.size ≤ w8.heap.size := Nat.le_trans hsl ua.size
                have ho8 := Own.upd HO.out ua (fun _ _ f => f)
                clear CFC hu8 y0 y1 y2 y3
                go_wp2_with (at_builtin; refine wpList_apps rfl rfl rfl ho8 HA.out hsl8 rfl (by omega) ?_; intro B4 b4 w9 ho9 hu9 hat9)
                rw [HE.out] at ho9
                have HU9 : Hid (Upd Non w w9) := (HUQ.out.then_non ua).trans hu9 (fun j hj e => by have := HA.out j e; omega)
                have HLN : Hid ((({ data := #[44, 32] } : ByteArray) ++ fc).size = ((if true && (r.conds.take q).isEmpty then [32, 105, 102, 32] else [44, 32]) ++ fmtC cd).length) := by show _ = _; rw [← HE.out, kx_len]
                have HLM : Hid (2 + fc.size = ((if true && (r.conds.take q).isEmpty then [32, 105, 102, 32] else [44, 32]) ++ fmtC cd).length) := by
                  show _ = _
                  rw [← HLN.out, ByteArray.size_append']
                  rfl
                have hs44 : 2 + fc.size ≤ 44 := by omega
                rw [HLN.out] at ho9
                have HO9 := Lib.hid ho9
                have HA9 := Lib.hid hat9
                clear ho9 hu9 hat9 ho8 ua hsz
                go_roundg (m - (q + 1))
                case measure => rw [Hgq.out]; omega
                case rel =>
                  refine ⟨q + 1, B4, b4, b3 ++ ((if true && (r.conds.take q).isEmpty then [32, 105, 102, 32] else [44, 32]) ++ fmtC cd), rfl, by omega, by go_num, by rw [List.length_append, ← HLM.out], ?_, HA9.out, ?_, ?_, HU9⟩
                  · show Own _ _ _ _ _ _ _
                    rw [List.length_append]
                    exact HO9.out
                  · show _ = _
                    rw [HTC.out, fmtCs_snoc, HB3.out, List.append_assoc]
                  · rw [List.length_append, ← HLM.out]
                    omega
            · obtain rfl : m = q := by omega
              have hsl : w.heap.size ≤ wr.heap.size := HUQ.out.size
              have HZE : Hid (kx ({ data := #[59, 10] } : ByteArray) = [59, 10]) := rfl
              have hsz2 : ({ data := #[59, 10] } : ByteArray).size = 2 := rfl
              go_wp2_with (at_builtin; refine wpList_apps rfl rfl rfl HO.out HA.out hsl rfl (by omega) ?_; intro B4 b4 w9 ho9 hu9 hat9)
              have HT : Hid (b3 ++ [59, 10] = fmtRs (L.take (k + 1))) := by
                show _ = _
                rw [HTK.out, fmtRs_snoc, fmtR_hd, HB3.out, HBS.out, HB.out, ← Hm.out, List.take_length]
                simp
              have HIA : Hid (∀ x ∈ L.take (k + 1), implF x = true) := fun x hx => by
                rw [HTK.out] at hx
                rcases List.mem_append.1 hx with hx | hx
                · exact HI2.out x hx
                · rw [List.mem_singleton] at hx; subst hx; exact Hv.out
              have HU9 : Hid (Upd Non w w9) := HUQ.out.trans hu9 (fun j hj e => by have := HA.out j e; omega)
              rw [HZE.out, HT.out] at ho9
              have HO9 := Lib.hid ho9
              have HA9 := Lib.hid hat9
              clear ho9 hu9 hat9
              go_roundg (n - (k + 1))
              case measure => rw [Hg.out]; omega
              case rel =>
                have hlen : b3.length + 2 = (fmtRs (L.take (k + 1))).length := by rw [← HT.out]; simp
                refine ⟨k + 1, B4, b4, fmtRs (L.take (k + 1)), rfl, by omega, by go_num, by rw [← hlen], ?_, HA9.out, rfl, ?_, HIA, HU9⟩
                · show Own _ _ _ _ _ _ _
                  rw [← hlen]
                  exact HO9.out
                · have := fmtRs_len (L := L.take (k + 1)) (fun x hx => impl_fm (HIA.out x hx) (HI.out x (List.mem_of_mem_take hx)))
                  rw [List.length_take] at this
                  omega
    · obtain rfl : n = k := by omega
      have hcv := conv_own HO.out rfl
      have HE : Hid (kstr bs = res) := by
        show _ = _
        rw [← Hres.out, HB.out]
        unfold printF
        have h1 := HI2.out
        rw [← Hn.out, List.take_length] at h1 ⊢
        rw [if_pos (List.all_eq_true.2 h1)]
      rw [HE.out] at hcv
      go_wp2_with fail
      go_ret
      exact ⟨rfl, HU.out⟩
end Go.Proofs.Ytblkgjdhaibhgaa
