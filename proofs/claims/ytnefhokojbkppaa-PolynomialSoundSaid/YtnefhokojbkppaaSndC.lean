/-
  PolynomialSound returns true.
-/
import Derived.Test.YtnefhokojbkppaaSndP
namespace Go.Proofs.Ytnefhokojbkppaa
open Go.RowKit

set_option maxRecDepth 100000 in
set_option maxHeartbeats 8000000 in
theorem poSound_c (w : World) (F : Nat → Prop) (A B : Option Addr) (c d : Nat) (xs ys : List Int) (i0 i1 i2 : Int) (hx : Ints w F A xs) (hy : Ints w F B ys) (hc : xs.length ≤ c) (hd : ys.length ≤ d) (hI : ∀ x ∈ xs, I64 x) (hJ : ∀ x ∈ ys, I64 x) (h0 : I64 i0) (h1 : I64 i1) (h2 : I64 i2) (hn : xs.length ≤ 100000000000000) (hm : ys.length ≤ 100000000000000) :
    Calls Try.prog 4 #[.slice A xs.length c, .slice B ys.length d, .int .i64 i0, .int .i64 i1, .int .i64 i2] w fun e w' => e = .returned (.bool true) ∧ Upd Non w w' := by
  obtain ⟨W, HW⟩ := nm (w.alloc (.cells #[.int .i64 i0, .int .i64 i1, .int .i64 i2] 2))
  have e0 := HW.out
  have hU : Upd Non w W := by rw [← e0]; exact Upd.refl.alloc _
  have hin : Ints W (fun _ => True) (some ⟨w.heap.size, 0, none⟩) [i0, i1, i2] := by rw [← e0]; exact Ints.new _ rfl rfl
  have HII : Hid (∀ x ∈ [i0, i1, i2], I64 x) := by
    intro x hx
    simp only [List.mem_cons, List.not_mem_nil, or_false] at hx
    rcases hx with rfl | rfl | rfl <;> assumption
  have C1 := Lib.hid (pattern_c W F A c xs 3 (by omega) (by omega) (hx.upd hU (fun _ _ _ f => f)) hc hI hn)
  have C2 := Lib.hid (fun w' (u : Upd Non w w') => pattern_c w' F B d ys 3 (by omega) (by omega) (hy.upd u (fun _ _ _ f => f)) hd hJ hm)
  rw [show ((3 : Nat) : Int) = 3 from rfl] at C1 C2
  obtain ⟨nx, Hnx⟩ := nm xs.length
  obtain ⟨ny, Hny⟩ := nm ys.length
  rw [Hnx.out] at C1
  rw [Hny.out] at C2
  rw [Hnx.out, Hny.out]
  clear hx hy hc hd hI hJ h0 h1 h2 hn hm
  obtain ⟨ins, Hins⟩ := nm [i0, i1, i2]
  have hi3 : ins.length = 3 := by rw [← Hins.out]; rfl
  have HI3 := Lib.hid hi3
  rw [Hins.out] at hin HII
  clear hi3
  go_enter Try.func4, Try.ntmps4
  go_wp2_with fail
  refine C1.out.mono ?_
  rintro e w1 ⟨p, KP, kp, rfl, hp, hps, hpk, hu1⟩
  have HU1 := hU.then_non hu1
  unfold pv
  clear C1
  go_wp2_with fail
  refine (C2.out _ HU1).mono ?_
  rintro e w2 ⟨q, KQ, kq, rfl, hq, hqs, hqk, hu2⟩
  unfold pv
  have HU2 := HU1.then_non hu2
  obtain ⟨W3, HW3⟩ := nm ((w2.alloc (.cells #[.int .i64 p.v, .int .i64 p.op, .int .i64 p.imm, .int .i64 p.iv, .slice KP p.kids.length kp] 24)).alloc (.cells #[.int .i64 q.v, .int .i64 q.op, .int .i64 q.imm, .int .i64 q.iv, .slice KQ q.kids.length kq] 24))
  have e3 := HW3.out
  have uA : Upd Non w2 W3 := by rw [← e3]; exact (Upd.refl.alloc _).alloc _
  have hbp : Blk W3 w2.heap.size 24 #[.int .i64 p.v, .int .i64 p.op, .int .i64 p.imm, .int .i64 p.iv, .slice KP p.kids.length kp] := by rw [← e3]; exact (Blk.new _ _ _).alloc _
  have hbq : Blk W3 (w2.heap.size + 1) 24 #[.int .i64 q.v, .int .i64 q.op, .int .i64 q.imm, .int .i64 q.iv, .slice KQ q.kids.length kq] := by rw [← e3]; exact Blk.new' (by simp)
  have hkp := PtK.upd (hu2.then_non uA) (fun _ _ _ f => f) _ _ _ hpk
  have hkq := PtK.upd uA (fun _ _ _ f => f) _ _ _ hqk
  have hin3 := hin.upd ((hu1.then_non hu2).then_non uA) (fun _ _ _ f => f)
  have HU3 := HU2.then_non uA
  clear C2 hu1 hu2 uA hpk hqk hin HU1 HU2 hU
  have c0 := hbp.cell 0
  have c1 := hbp.cell 1
  have c2 := hbp.cell 2
  have c3 := hbp.cell 3
  have c4 := hbp.cell 4
  have C3 := Lib.hid (normU_c p W3 _ KP kp 3 hkp (by omega))
  unfold pv at C3
  rw [norm_some hp] at C3
  obtain ⟨bp, Hbp⟩ := nm (validF p 3 0)
  obtain ⟨bq, Hbq⟩ := nm (validF q 3 0)
  rw [Hbp.out] at C3
  go_wp2_with fail
  refine C3.out.mono ?_
  rintro e w4 ⟨r1, A1, n1, rfl, hv1, hz1, hu4⟩
  have hbp4 := hbp.upd hu4 (fun f => f)
  have hbq4 := hbq.upd hu4 (fun f => f)
  have hkp4 := PtK.upd hu4 (fun _ _ _ f => f) _ _ _ hkp
  have hkq4 := PtK.upd hu4 (fun _ _ _ f => f) _ _ _ hkq
  have hin4 := hin3.upd hu4 (fun _ _ _ f => f)
  have HU4 := HU3.then_non hu4
  have HZ1 := Lib.hid hz1
  clear C3 c0 c1 c2 c3 c4 hbp hbq hkp hkq hin3 HU3 hu4 hz1
  have c0 := hbq4.cell 0
  have c1 := hbq4.cell 1
  have c2 := hbq4.cell 2
  have c3 := hbq4.cell 3
  have c4 := hbq4.cell 4
  have C3 := Lib.hid (normU_c q w4 _ KQ kq 3 hkq4 (by omega))
  unfold pv at C3
  rw [norm_some hq, Hbq.out] at C3
  go_wp2_with fail
  refine C3.out.mono ?_
  rintro e w5 ⟨r2, A2, n2, rfl, hv2, hz2, hu5⟩
  have hbp5 := hbp4.upd hu5 (fun f => f)
  have hbq5 := hbq4.upd hu5 (fun f => f)
  have hkp5 := PtK.upd hu5 (fun _ _ _ f => f) _ _ _ hkp4
  have hkq5 := PtK.upd hu5 (fun _ _ _ f => f) _ _ _ hkq4
  have hin5 := hin4.upd hu5 (fun _ _ _ f => f)
  have hv15 := hv1.upd hu5 (fun _ _ _ f => f)
  have HU5 := HU4.then_non hu5
  have HZ2 := Lib.hid hz2
  clear C3 c0 c1 c2 c3 c4 hbp4 hbq4 hkp4 hkq4 hin4 HU4 hu5 hv1 hz2 e3 e0
  have p0 := hbp5.cell 0
  have p1 := hbp5.cell 1
  have p2 := hbp5.cell 2
  have p3 := hbp5.cell 3
  have p4 := hbp5.cell 4
  have q0 := hbq5.cell 0
  have q1 := hbq5.cell 1
  have q2 := hbq5.cell 2
  have q3 := hbq5.cell 3
  have q4 := hbq5.cell 4
  have CV := Lib.hid (r15Valid_c p w5 _ KP kp 3 0 hkp5 (by omega))
  unfold pv at CV
  rw [Hbp.out] at CV
  cases bp with
  | false =>
    go_wp2_with fail
    refine CV.out.mono ?_
    rintro e w6 ⟨rfl, hu6⟩
    have CE := Lib.hid (poExamples_c w6)
    go_wp2_with fail
    refine CE.out.mono ?_
    rintro e w7 ⟨rfl, hu7⟩
    go_wp2_with fail
    go_ret
    exact ⟨rfl, (HU5.then_non hu6).then_non hu7⟩
  | true =>
    cases bq with
    | false =>
      go_wp2_with fail
      refine CV.out.mono ?_
      rintro e w6 ⟨rfl, hu6⟩
      have CQ := Lib.hid (r15Valid_c q w6 _ KQ kq 3 0 (PtK.upd hu6 (fun _ _ _ f => f) _ _ _ hkq5) (by omega))
      unfold pv at CQ
      rw [Hbq.out] at CQ
      have q0 := cell_upd q0 hu6 (fun f => f)
      have q1 := cell_upd q1 hu6 (fun f => f)
      have q2 := cell_upd q2 hu6 (fun f => f)
      have q3 := cell_upd q3 hu6 (fun f => f)
      have q4 := cell_upd q4 hu6 (fun f => f)
      go_wp2_with fail
      refine CQ.out.mono ?_
      rintro e w7 ⟨rfl, hu7⟩
      have CE := Lib.hid (poExamples_c w7)
      go_wp2_with fail
      refine CE.out.mono ?_
      rintro e w8 ⟨rfl, hu8⟩
      go_wp2_with fail
      go_ret
      exact ⟨rfl, ((HU5.then_non hu6).then_non hu7).then_non hu8⟩
    | true =>
      obtain ⟨HF1, HO1, v1, hev1, hv1I, hv1m⟩ := snd_facts hp Hbp.out HZ1.out ins HI3.out HII.out
      obtain ⟨HF2, HO2, v2, hev2, hv2I, hv2m⟩ := snd_facts hq Hbq.out HZ2.out ins HI3.out HII.out
      have hwfp := valid_wf Hbp.out
      have hwfq := valid_wf Hbq.out
      have hlen1 := HZ1.out.1
      have hlen2 := HZ2.out.1
      have HE1 := Lib.hid hev1
      have HE2 := Lib.hid hev2
      have HVm1 := Lib.hid hv1m
      have HVm2 := Lib.hid hv2m
      have HP := Lib.hid hwfp
      have HQ := Lib.hid hwfq
      have HPI := Lib.hid (And.intro hv1I hv2I)
      have H1 := Lib.hid HF1
      have H1O := Lib.hid HO1
      have H2 := Lib.hid HF2
      clear CV hev1 hev2 hwfp hwfq hv1m hv2m hv1I hv2I HF1 HO1 HF2 HO2 HZ1 HZ2 Hbp Hbq
      obtain ⟨L1, HL1⟩ := nm (mns r1)
      obtain ⟨L2, HL2⟩ := nm (mns r2)
      rw [HL1.out] at hlen1 hv15 HVm1 H1 H1O
      rw [HL2.out] at hlen2 hv2 HVm2 H2
      rw [HL1.out, HL2.out]
      obtain ⟨N1, HN1⟩ := nm L1.length
      obtain ⟨N2, HN2⟩ := nm L2.length
      rw [HN1.out] at hlen1
      rw [HN2.out] at hlen2
      rw [HN1.out, HN2.out]
      go_wp2_with fail
      go_loopg [18, 20, 21, 22, 66] N1 (fun g v _ _ _ ix wr => ∃ (i : Nat) (u : Int), Hid (g = N1 - i) ∧ i ≤ N1 ∧ ix = .int .i64 i ∧ v = .int .u64 u ∧ Hid (u = u64w (evM ins (L1.take i))) ∧ Upd Non w5 wr)
      case atStart => exact ⟨0, 0, rfl, by omega, rfl, rfl, rfl, Upd.refl⟩
      case round =>
        obtain ⟨i, u, Hg, hk, rfl, rfl, Hu, hu⟩ := hrel
        by_cases hlt : i < N1
        · have hil : i < L1.length := by rw [HN1.out]; exact hlt
          obtain ⟨b, o, rfl, hF, hbw, KA, kc, g0, g1, g2, g3⟩ := (hv15.upd hu (fun _ _ _ f => f)).at_ hil
          have hmem := H1.out _ (List.getElem_mem hil)
          have HTK : Hid (L1.take (i + 1) = L1.take i ++ [L1[i]]) := by
            show _ = _
            rw [List.take_add_one, List.getElem?_eq_getElem hil]; rfl
          have HNE : Hid (∀ k (hk : k < L1.length), k < i → L1[i].1 ≠ L1[k].1) := fun k hk hki => H1O.out i k hil hk hki
          generalize L1[i] = m at *
          obtain ⟨es, cf⟩ := m
          dsimp only at g0 g1 g2 g3 hmem HNE
          obtain ⟨hes3, hcf0, hcf1, hesr⟩ := hmem
          rw [hes3] at g0 g2
          obtain ⟨Wt, HWt⟩ := nm (wr.alloc (.cells #[.slice KA 3 kc, .int .u64 cf] 32))
          have et := HWt.out
          have hut : Upd Non wr Wt := by rw [← et]; exact Upd.refl.alloc _
          have hbt : Blk Wt wr.heap.size 32 #[.slice KA 3 kc, .int .u64 cf] := by rw [← et]; exact Blk.new _ _ _
          have HUt := hu.then_non hut
          have t0 := hbt.cell 0
          have t1 := hbt.cell 1
          have tc : (cf == 0) = false := by simp; omega
          have CT := Lib.hid (term_c Wt _ _ KA (some ⟨w.heap.size, 0, none⟩) kc 3 es ins cf (g3.upd hut (fun _ _ _ f => f)) (hin5.upd HUt (fun _ _ _ f => f)) (by rw [hes3, HI3.out]) (by rw [HI3.out]; omega) hesr ⟨by omega, hcf1⟩)
          rw [hes3, HI3.out] at CT
          obtain ⟨tv, Htv⟩ := nm (u64w (cf * monV ins es))
          rw [Htv.out] at CT
          go_wp2_with fail
          refine CT.out.mono ?_
          rintro e w6 ⟨rfl, hu6⟩
          have HUN : Hid (IntKind.u64.wrap (u + tv) = u64w (evM ins (L1.take (i + 1)))) := by
            show _ = _
            rw [HTK.out, evM_snoc, Hu.out, ← Htv.out, IntKind.wrap_u64]
            unfold u64w
            exact (Int.add_emod _ _ _).symm
          have HU6 := HUt.then_non hu6
          have t0 := cell_upd t0 hu6 (fun f => f)
          have hie := g3.upd (hut.then_non hu6) (fun _ _ _ f => f)
          have hvL := hv15.upd HU6 (fun _ _ _ f => f)
          obtain ⟨e0, e1, e2, rfl⟩ : ∃ e0 e1 e2, es = [e0, e1, e2] := by
            match es, hes3 with
            | [e0, e1, e2], _ => exact ⟨e0, e1, e2, rfl⟩
          obtain ⟨bk, ok, rfl, _, _, k0⟩ := hie.at_ (k := 0) (by simp)
          obtain ⟨bk', ok', ek, _, _, k1⟩ := hie.at_ (k := 1) (by simp)
          injection ek with ek
          injection ek with ek ek2
          subst ek; subst ek2
          obtain ⟨bk', ok', ek, _, _, k2⟩ := hie.at_ (k := 2) (by simp)
          injection ek with ek
          injection ek with ek ek2
          subst ek; subst ek2
          simp only [List.getElem_cons_zero, List.getElem_cons_succ] at k0 k1 k2
          obtain ⟨bt, Hbt⟩ := nm wr.heap.size
          rw [Hbt.out] at t0
          rw [Hbt.out]
          clear CT tc t1 hbt et HWt g0 g1 g2 g3 hes3 hesr hie hut hu6 HUt hu Hu HTK Htv
          go_wp2_with fail
          go_loopg [22] i (fun g2 kv w8 => ∃ k : Nat, Hid (g2 = i - k) ∧ k ≤ i ∧ kv = .int .i64 k ∧ Upd Non w6 w8)
          case atStart => exact ⟨0, rfl, by omega, rfl, Upd.refl⟩
          case round =>
            obtain ⟨k, Hg2, hki, rfl, hu8⟩ := hrel
            by_cases hlk : k < i
            · have hkl : k < L1.length := by rw [HN1.out]; omega
              obtain ⟨b', o', eb, _, _, KB, kd, d0, _, d2, d3⟩ := (hvL.upd hu8 (fun _ _ _ f => f)).at_ hkl
              injection eb with eb
              injection eb with eb eb2
              subst eb; subst eb2
              have hd3 := (H1.out _ (List.getElem_mem hkl)).1
              have hne := HNE.out k hkl hlk
              generalize L1[k] = m at *
              obtain ⟨ds, df⟩ := m
              dsimp only at d0 d2 d3 hd3 hne
              rw [hd3] at d0 d2
              obtain ⟨f0, f1, f2, rfl⟩ : ∃ f0 f1 f2, ds = [f0, f1, f2] := by
                match ds, hd3 with
                | [f0, f1, f2], _ => exact ⟨f0, f1, f2, rfl⟩
              obtain ⟨bd, od, rfl, _, _, m0⟩ := d3.at_ (k := 0) (by simp)
              obtain ⟨bk', ok', ek, _, _, m1⟩ := d3.at_ (k := 1) (by simp)
              injection ek with ek
              injection ek with ek ek2
              subst ek; subst ek2
              obtain ⟨bk', ok', ek, _, _, m2⟩ := d3.at_ (k := 2) (by simp)
              injection ek with ek
              injection ek with ek ek2
              subst ek; subst ek2
              simp only [List.getElem_cons_zero, List.getElem_cons_succ] at m0 m1 m2
              have t1 : decide ((k : Int) < (i : Int)) = true := decide_eq_true (by omega)
              have hk0 := cell_upd k0 hu8 (fun f => f)
              have hk1 := cell_upd k1 hu8 (fun f => f)
              have hk2 := cell_upd k2 hu8 (fun f => f)
              have ht0 := cell_upd t0 hu8 (fun f => f)
              go_wp2_with fail
              obtain ⟨wD, HwD⟩ := nm wr.drew
              have uD : Upd Non wr wD := by rw [← HwD.out]; exact Upd.refl.drew
              have HU9 := hu8.then_non uD
              have hS : wD.cell? ⟨bt, 0, none⟩ = some (.slice (some ⟨bk, ok, none⟩) 3 kc) ∧ wD.cell? ⟨bk, ok, none⟩ = some (.int .i64 e0) ∧ wD.cell? ⟨bk, ok + 1, none⟩ = some (.int .i64 e1) ∧ wD.cell? ⟨bk, ok + 2, none⟩ = some (.int .i64 e2) ∧ wD.cell? ⟨b, o + k * 2, none⟩ = some (.slice (some ⟨bd, od, none⟩) 3 kd) ∧ wD.cell? ⟨bd, od, none⟩ = some (.int .i64 f0) ∧ wD.cell? ⟨bd, od + 1, none⟩ = some (.int .i64 f1) ∧ wD.cell? ⟨bd, od + 2, none⟩ = some (.int .i64 f2) :=
                ⟨cell_upd ht0 uD (fun f => f), cell_upd hk0 uD (fun f => f), cell_upd hk1 uD (fun f => f), cell_upd hk2 uD (fun f => f), cell_upd d0 uD (fun f => f), cell_upd m0 uD (fun f => f), cell_upd m1 uD (fun f => f), cell_upd m2 uD (fun f => f)⟩
              refine wp_region_held_drew (S := fun w' => w'.cell? ⟨bt, 0, none⟩ = some (.slice (some ⟨bk, ok, none⟩) 3 kc) ∧ w'.cell? ⟨bk, ok, none⟩ = some (.int .i64 e0) ∧ w'.cell? ⟨bk, ok + 1, none⟩ = some (.int .i64 e1) ∧ w'.cell? ⟨bk, ok + 2, none⟩ = some (.int .i64 e2) ∧ w'.cell? ⟨b, o + k * 2, none⟩ = some (.slice (some ⟨bd, od, none⟩) 3 kd) ∧ w'.cell? ⟨bd, od, none⟩ = some (.int .i64 f0) ∧ w'.cell? ⟨bd, od + 1, none⟩ = some (.int .i64 f1) ∧ w'.cell? ⟨bd, od + 2, none⟩ = some (.int .i64 f2)) (by kernel_rfl) (by rw [HwD.out]; exact hS) (fun hHeld => ?_)
              rw [HwD.out] at hHeld ⊢
              have HHne := Lib.hid hne
              have hkn : k < N1 := by omega
              clear hne k0 k1 k2 t0 d0 d2 d3 hd3 m0 m1 m2 hk0 hk1 hk2 ht0 hS hvL hv15 hv2 p0 p1 p2 p3 p4 q0 q1 q2 q3 q4
              by_cases x0 : e0 = f0
              · subst x0
                by_cases x1 : e1 = f1
                · subst x1
                  have x2 : (e2 == f2) = false := by
                    simp only [beq_eq_false_iff_ne]
                    rintro rfl
                    exact HHne.out rfl
                  refine wpAnyH_take (i := 0) (v := ?_) rfl (by kernel_rfl) (by kernel_rfl) (by kernel_rfl) (fun _ _ _ h => h) (Or.inl ⟨by rfl, ?_⟩) (by assumption) ?_
                  rotate_left
                  · intro w hSw; (try dsimp only at hSw); go_simp; try with_reducible rfl
                  try simp only [put_y]
                  try simp only [Act.put]
                  try simp only [put_z]
                  refine wpAnyH_take (i := 1) (v := ?_) rfl (by kernel_rfl) (by kernel_rfl) (by kernel_rfl) (fun _ _ _ h => h) (Or.inl ⟨by rfl, ?_⟩) (by assumption) ?_
                  rotate_left
                  · intro w hSw; (try dsimp only at hSw); go_simp; try with_reducible rfl
                  try simp only [put_y]
                  try simp only [Act.put]
                  try simp only [put_z]
                  refine wpAnyH_take (i := 2) (v := ?_) rfl (by kernel_rfl) (by kernel_rfl) (by kernel_rfl) (fun _ _ _ h => h) (Or.inl ⟨by rfl, ?_⟩) (by assumption) ?_
                  rotate_left
                  · intro w hSw; (try dsimp only at hSw); go_simp; try with_reducible rfl
                  try simp only [put_y]
                  try simp only [Act.put]
                  try simp only [put_z]
                  refine wpAnyH_take (i := 3) (v := ?_) rfl (by kernel_rfl) (by kernel_rfl) (by kernel_rfl) (fun _ _ _ h => h) (Or.inl ⟨by rfl, ?_⟩) (by assumption) ?_
                  rotate_left
                  · intro w hSw; (try dsimp only at hSw); go_simp; try with_reducible rfl
                  try simp only [put_y]
                  try simp only [Act.put]
                  try simp only [put_z]
                  refine wpAnyH_take (i := 4) (v := ?_) rfl (by kernel_rfl) (by kernel_rfl) (by kernel_rfl) (fun _ _ _ h => h) (Or.inl ⟨by rfl, ?_⟩) (by assumption) ?_
                  rotate_left
                  · intro w hSw; (try dsimp only at hSw); go_simp; try with_reducible rfl
                  try simp only [put_y]
                  try simp only [Act.put]
                  try simp only [put_z]
                  refine wpAnyH_take (i := 5) (v := ?_) rfl (by kernel_rfl) (by kernel_rfl) (by kernel_rfl) (fun _ _ _ h => h) (Or.inl ⟨by rfl, ?_⟩) (by assumption) ?_
                  rotate_left
                  · intro w hSw; (try dsimp only at hSw); go_simp; try with_reducible rfl
                  try simp only [put_y]
                  try simp only [Act.put]
                  try simp only [put_z]
                  refine wpAnyH_take (i := 6) (v := ?_) rfl (by kernel_rfl) (by kernel_rfl) (by kernel_rfl) (fun _ _ _ h => h) (Or.inl ⟨by rfl, ?_⟩) (by assumption) ?_
                  rotate_left
                  · intro w hSw; (try dsimp only at hSw); go_simp; try with_reducible rfl
                  try simp only [put_y]
                  try simp only [Act.put]
                  try simp only [put_z]
                  refine wpAnyH_take (i := 7) (v := ?_) rfl (by kernel_rfl) (by kernel_rfl) (by kernel_rfl) (fun _ _ _ h => h) (Or.inl ⟨by rfl, ?_⟩) (by assumption) ?_
                  rotate_left
                  · intro w hSw; (try dsimp only at hSw); go_simp; try with_reducible rfl
                  try simp only [put_y]
                  try simp only [Act.put]
                  try simp only [put_z]
                  refine wpAnyH_take (i := 8) (v := ?_) rfl (by kernel_rfl) (by kernel_rfl) (by kernel_rfl) (fun _ _ _ h => h) (Or.inl ⟨by rfl, ?_⟩) (by assumption) ?_
                  rotate_left
                  · intro w hSw; (try dsimp only at hSw); go_simp; try with_reducible rfl
                  try simp only [put_y]
                  try simp only [Act.put]
                  try simp only [put_z]
                  refine wpAnyH_take (i := 9) (v := ?_) rfl (by kernel_rfl) (by kernel_rfl) (by kernel_rfl) (fun _ _ _ h => h) (Or.inl ⟨by rfl, ?_⟩) (by assumption) ?_
                  rotate_left
                  · intro w hSw; (try dsimp only at hSw); go_simp; try with_reducible rfl
                  try simp only [put_y]
                  try simp only [Act.put]
                  try simp only [put_z]
                  refine wpAnyH_take (i := 10) (v := ?_) rfl (by kernel_rfl) (by kernel_rfl) (by kernel_rfl) (fun _ _ _ h => h) (Or.inl ⟨by rfl, ?_⟩) (by assumption) ?_
                  rotate_left
                  · intro w hSw; (try dsimp only at hSw); go_simp; try with_reducible rfl
                  try simp only [put_y]
                  try simp only [Act.put]
                  try simp only [put_z]
                  refine wpAnyH_take (i := 11) (v := ?_) rfl (by kernel_rfl) (by kernel_rfl) (by kernel_rfl) (fun _ _ _ h => h) (Or.inl ⟨by rfl, ?_⟩) (by assumption) ?_
                  rotate_left
                  · intro w hSw; (try dsimp only at hSw); go_simp; try with_reducible rfl
                  try simp only [put_y]
                  try simp only [Act.put]
                  try simp only [put_z]
                  refine wpAnyH_take (i := 12) (v := ?_) rfl (by kernel_rfl) (by kernel_rfl) (by kernel_rfl) (fun _ _ _ h => h) (Or.inl ⟨by rfl, ?_⟩) (by assumption) ?_
                  rotate_left
                  · intro w hSw; (try dsimp only at hSw); go_simp; try with_reducible rfl
                  try simp only [put_y]
                  try simp only [Act.put]
                  try simp only [put_z]
                  refine wpAnyH_take (i := 13) (v := ?_) rfl (by kernel_rfl) (by kernel_rfl) (by kernel_rfl) (fun _ _ _ h => h) (Or.inl ⟨by rfl, ?_⟩) (by assumption) ?_
                  rotate_left
                  · intro w hSw; (try dsimp only at hSw); go_simp; try with_reducible rfl
                  try simp only [put_y]
                  try simp only [Act.put]
                  try simp only [put_z]
                  refine wpAnyH_take (i := 14) (v := ?_) rfl (by kernel_rfl) (by kernel_rfl) (by kernel_rfl) (fun _ _ _ h => h) (Or.inl ⟨by rfl, ?_⟩) (by assumption) ?_
                  rotate_left
                  · intro w hSw; (try dsimp only at hSw); go_simp; try with_reducible rfl
                  try simp only [put_y]
                  try simp only [Act.put]
                  try simp only [put_z]
                  refine wpAnyH_take (i := 15) (v := ?_) rfl (by kernel_rfl) (by kernel_rfl) (by kernel_rfl) (fun _ _ _ h => h) (Or.inl ⟨by rfl, ?_⟩) (by assumption) ?_
                  rotate_left
                  · intro w hSw; (try dsimp only at hSw); go_simp; try with_reducible rfl
                  try simp only [put_y]
                  try simp only [Act.put]
                  try simp only [put_z]
                  refine wpAnyH_take (i := 16) (v := ?_) rfl (by kernel_rfl) (by kernel_rfl) (by kernel_rfl) (fun _ _ _ h => h) (Or.inl ⟨by rfl, ?_⟩) (by assumption) ?_
                  rotate_left
                  · intro w hSw; (try dsimp only at hSw); go_simp; try with_reducible rfl
                  try simp only [put_y]
                  try simp only [Act.put]
                  try simp only [put_z]
                  refine wpAnyH_take (i := 17) (v := ?_) rfl (by kernel_rfl) (by kernel_rfl) (by kernel_rfl) (fun _ _ _ h => h) (Or.inl ⟨by rfl, ?_⟩) (by assumption) ?_
                  rotate_left
                  · intro w hSw; (try dsimp only at hSw); go_simp; try with_reducible rfl
                  try simp only [put_y]
                  try simp only [Act.put]
                  try simp only [put_z]
                  refine wpAnyH_take (i := 18) (v := ?_) rfl (by kernel_rfl) (by kernel_rfl) (by kernel_rfl) (fun _ _ _ h => h) (Or.inl ⟨by rfl, ?_⟩) (by assumption) ?_
                  rotate_left
                  · intro w hSw; (try dsimp only at hSw); go_simp; try with_reducible rfl
                  try simp only [put_y]
                  try simp only [Act.put]
                  try simp only [put_z]
                  refine wpAnyH_take (i := 19) (v := ?_) rfl (by kernel_rfl) (by kernel_rfl) (by kernel_rfl) (fun _ _ _ h => h) (Or.inl ⟨by rfl, ?_⟩) (by assumption) ?_
                  rotate_left
                  · intro w hSw; (try dsimp only at hSw); go_simp; try with_reducible rfl
                  try simp only [put_y]
                  try simp only [Act.put]
                  try simp only [put_z]
                  refine wpAnyH_take (i := 20) (v := ?_) rfl (by kernel_rfl) (by kernel_rfl) (by kernel_rfl) (fun _ _ _ h => h) (Or.inl ⟨by rfl, ?_⟩) (by assumption) ?_
                  rotate_left
                  · intro w hSw; (try dsimp only at hSw); go_simp; try with_reducible rfl
                  try simp only [put_y]
                  try simp only [Act.put]
                  try simp only [put_z]
                  refine wpAnyH_take (i := 21) (v := ?_) rfl (by kernel_rfl) (by kernel_rfl) (by kernel_rfl) (fun _ _ _ h => h) (Or.inl ⟨by rfl, ?_⟩) (by assumption) ?_
                  rotate_left
                  · intro w hSw; (try dsimp only at hSw); go_simp; try with_reducible rfl
                  try simp only [put_y]
                  try simp only [Act.put]
                  try simp only [put_z]
                  refine wpAnyH_take (i := 22) (v := ?_) rfl (by kernel_rfl) (by kernel_rfl) (by kernel_rfl) (fun _ _ _ h => h) (Or.inl ⟨by rfl, ?_⟩) (by assumption) ?_
                  rotate_left
                  · intro w hSw; (try dsimp only at hSw); go_simp; try with_reducible rfl
                  try simp only [put_y]
                  try simp only [Act.put]
                  try simp only [put_z]
                  refine wpAnyH_take (i := 23) (v := ?_) rfl (by kernel_rfl) (by kernel_rfl) (by kernel_rfl) (fun _ _ _ h => h) (Or.inl ⟨by rfl, ?_⟩) (by assumption) ?_
                  rotate_left
                  · intro w hSw; (try dsimp only at hSw); go_simp; try with_reducible rfl
                  try simp only [put_y]
                  try simp only [Act.put]
                  try simp only [put_z]
                  refine wpAnyH_take (i := 24) (v := ?_) rfl (by kernel_rfl) (by kernel_rfl) (by kernel_rfl) (fun _ _ _ h => h) (Or.inl ⟨by rfl, ?_⟩) (by assumption) ?_
                  rotate_left
                  · intro w hSw; (try dsimp only at hSw); go_simp; try with_reducible rfl
                  try simp only [put_y]
                  try simp only [Act.put]
                  try simp only [put_z]
                  refine wpAnyH_take (i := 25) (v := ?_) rfl (by kernel_rfl) (by kernel_rfl) (by kernel_rfl) (fun _ _ _ h => h) (Or.inl ⟨by rfl, ?_⟩) (by assumption) ?_
                  rotate_left
                  · intro w hSw; (try dsimp only at hSw); go_simp; try with_reducible rfl
                  try simp only [put_y]
                  try simp only [Act.put]
                  try simp only [put_z]
                  refine wpAnyH_take (i := 26) (v := ?_) rfl (by kernel_rfl) (by kernel_rfl) (by kernel_rfl) (fun _ _ _ h => h) (Or.inl ⟨by rfl, ?_⟩) (by assumption) ?_
                  rotate_left
                  · intro w hSw; (try dsimp only at hSw); go_simp; try with_reducible rfl
                  try simp only [put_y]
                  try simp only [Act.put]
                  try simp only [put_z]
                  refine wpAnyH_take (i := 27) (v := ?_) rfl (by kernel_rfl) (by kernel_rfl) (by kernel_rfl) (fun _ _ _ h => h) (Or.inl ⟨by rfl, ?_⟩) (by assumption) ?_
                  rotate_left
                  · intro w hSw; (try dsimp only at hSw); go_simp; try with_reducible rfl
                  try simp only [put_y]
                  try simp only [Act.put]
                  try simp only [put_z]
                  refine wpAnyH_take (i := 28) (v := ?_) rfl (by kernel_rfl) (by kernel_rfl) (by kernel_rfl) (fun _ _ _ h => h) (Or.inl ⟨by rfl, ?_⟩) (by assumption) ?_
                  rotate_left
                  · intro w hSw; (try dsimp only at hSw); go_simp; try with_reducible rfl
                  try simp only [put_y]
                  try simp only [Act.put]
                  try simp only [put_z]
                  refine wpAnyH_take (i := 29) (v := ?_) rfl (by kernel_rfl) (by kernel_rfl) (by kernel_rfl) (fun _ _ _ h => h) (Or.inl ⟨by rfl, ?_⟩) (by assumption) ?_
                  rotate_left
                  · intro w hSw; (try dsimp only at hSw); go_simp; try with_reducible rfl
                  try simp only [put_y]
                  try simp only [Act.put]
                  try simp only [put_z]
                  refine wpAnyH_take (i := 30) (v := ?_) rfl (by kernel_rfl) (by kernel_rfl) (by kernel_rfl) (fun _ _ _ h => h) (Or.inl ⟨by rfl, ?_⟩) (by assumption) ?_
                  rotate_left
                  · intro w hSw; (try dsimp only at hSw); go_simp; try with_reducible rfl
                  try simp only [put_y]
                  try simp only [Act.put]
                  try simp only [put_z]
                  refine wpAnyH_take (i := 31) (v := ?_) rfl (by kernel_rfl) (by kernel_rfl) (by kernel_rfl) (fun _ _ _ h => h) (Or.inl ⟨by rfl, ?_⟩) (by assumption) ?_
                  rotate_left
                  · intro w hSw; (try dsimp only at hSw); go_simp; try with_reducible rfl
                  try simp only [put_y]
                  try simp only [Act.put]
                  try simp only [put_z]
                  refine wpAnyH_take (i := 32) (v := ?_) rfl (by kernel_rfl) (by kernel_rfl) (by kernel_rfl) (fun _ _ _ h => h) (Or.inl ⟨by rfl, ?_⟩) (by assumption) ?_
                  rotate_left
                  · intro w hSw; (try dsimp only at hSw); go_simp; try with_reducible rfl
                  try simp only [put_y]
                  try simp only [Act.put]
                  try simp only [put_z]
                  refine wpAnyH_take (i := 33) (v := ?_) rfl (by kernel_rfl) (by kernel_rfl) (by kernel_rfl) (fun _ _ _ h => h) (Or.inl ⟨by rfl, ?_⟩) (by assumption) ?_
                  rotate_left
                  · intro w hSw; (try dsimp only at hSw); go_simp; try with_reducible rfl
                  try simp only [put_y]
                  try simp only [Act.put]
                  try simp only [put_z]
                  refine wpAnyH_take (i := 34) (v := ?_) rfl (by kernel_rfl) (by kernel_rfl) (by kernel_rfl) (fun _ _ _ h => h) (Or.inl ⟨by rfl, ?_⟩) (by assumption) ?_
                  rotate_left
                  · intro w hSw; (try dsimp only at hSw); go_simp; try with_reducible rfl
                  try simp only [put_y]
                  try simp only [Act.put]
                  try simp only [put_z]
                  refine wpAnyH_take (i := 35) (v := ?_) rfl (by kernel_rfl) (by kernel_rfl) (by kernel_rfl) (fun _ _ _ h => h) (Or.inl ⟨by rfl, ?_⟩) (by assumption) ?_
                  rotate_left
                  · intro w hSw; (try dsimp only at hSw); go_simp; try with_reducible rfl
                  try simp only [put_y]
                  try simp only [Act.put]
                  try simp only [put_z]
                  refine wpAnyH_take (i := 36) (v := ?_) rfl (by kernel_rfl) (by kernel_rfl) (by kernel_rfl) (fun _ _ _ h => h) (Or.inl ⟨by rfl, ?_⟩) (by assumption) ?_
                  rotate_left
                  · intro w hSw; (try dsimp only at hSw); go_simp; try with_reducible rfl
                  try simp only [put_y]
                  try simp only [Act.put]
                  try simp only [put_z]
                  refine wpAnyH_take (i := 37) (v := ?_) rfl (by kernel_rfl) (by kernel_rfl) (by kernel_rfl) (fun _ _ _ h => h) (Or.inl ⟨by rfl, ?_⟩) (by assumption) ?_
                  rotate_left
                  · intro w hSw; (try dsimp only at hSw); go_simp; try with_reducible rfl
                  try simp only [put_y]
                  try simp only [Act.put]
                  try simp only [put_z]
                  refine wpAnyH_take (i := 38) (v := ?_) rfl (by kernel_rfl) (by kernel_rfl) (by kernel_rfl) (fun _ _ _ h => h) (Or.inl ⟨by rfl, ?_⟩) (by assumption) ?_
                  rotate_left
                  · intro w hSw; (try dsimp only at hSw); go_simp; try with_reducible rfl
                  try simp only [put_y]
                  try simp only [Act.put]
                  try simp only [put_z]
                  refine wpAnyH_take (i := 39) (v := ?_) rfl (by kernel_rfl) (by kernel_rfl) (by kernel_rfl) (fun _ _ _ h => h) (Or.inl ⟨by rfl, ?_⟩) (by assumption) ?_
                  rotate_left
                  · intro w hSw; (try dsimp only at hSw); go_simp; try with_reducible rfl
                  try simp only [put_y]
                  try simp only [Act.put]
                  try simp only [put_z]
                  refine wpAnyH_done (by kernel_rfl) ?_ _
                  go_wp2_with fail
                  go_roundg (i - (k + 1))
                  case measure => rw [Hg2.out]; omega
                  case rel => exact ⟨k + 1, rfl, by omega, by go_num, HU9⟩
                · have y1 : (e1 == f1) = false := by simpa using x1
                  clear x1
                  refine wpAnyH_take (i := 0) (v := ?_) rfl (by kernel_rfl) (by kernel_rfl) (by kernel_rfl) (fun _ _ _ h => h) (Or.inl ⟨by rfl, ?_⟩) (by assumption) ?_
                  rotate_left
                  · intro w hSw; (try dsimp only at hSw); go_simp; try with_reducible rfl
                  try simp only [put_y]
                  try simp only [Act.put]
                  try simp only [put_z]
                  refine wpAnyH_take (i := 1) (v := ?_) rfl (by kernel_rfl) (by kernel_rfl) (by kernel_rfl) (fun _ _ _ h => h) (Or.inl ⟨by rfl, ?_⟩) (by assumption) ?_
                  rotate_left
                  · intro w hSw; (try dsimp only at hSw); go_simp; try with_reducible rfl
                  try simp only [put_y]
                  try simp only [Act.put]
                  try simp only [put_z]
                  refine wpAnyH_take (i := 2) (v := ?_) rfl (by kernel_rfl) (by kernel_rfl) (by kernel_rfl) (fun _ _ _ h => h) (Or.inl ⟨by rfl, ?_⟩) (by assumption) ?_
                  rotate_left
                  · intro w hSw; (try dsimp only at hSw); go_simp; try with_reducible rfl
                  try simp only [put_y]
                  try simp only [Act.put]
                  try simp only [put_z]
                  refine wpAnyH_take (i := 3) (v := ?_) rfl (by kernel_rfl) (by kernel_rfl) (by kernel_rfl) (fun _ _ _ h => h) (Or.inl ⟨by rfl, ?_⟩) (by assumption) ?_
                  rotate_left
                  · intro w hSw; (try dsimp only at hSw); go_simp; try with_reducible rfl
                  try simp only [put_y]
                  try simp only [Act.put]
                  try simp only [put_z]
                  refine wpAnyH_take (i := 4) (v := ?_) rfl (by kernel_rfl) (by kernel_rfl) (by kernel_rfl) (fun _ _ _ h => h) (Or.inl ⟨by rfl, ?_⟩) (by assumption) ?_
                  rotate_left
                  · intro w hSw; (try dsimp only at hSw); go_simp; try with_reducible rfl
                  try simp only [put_y]
                  try simp only [Act.put]
                  try simp only [put_z]
                  refine wpAnyH_take (i := 5) (v := ?_) rfl (by kernel_rfl) (by kernel_rfl) (by kernel_rfl) (fun _ _ _ h => h) (Or.inl ⟨by rfl, ?_⟩) (by assumption) ?_
                  rotate_left
                  · intro w hSw; (try dsimp only at hSw); go_simp; try with_reducible rfl
                  try simp only [put_y]
                  try simp only [Act.put]
                  try simp only [put_z]
                  refine wpAnyH_take (i := 6) (v := ?_) rfl (by kernel_rfl) (by kernel_rfl) (by kernel_rfl) (fun _ _ _ h => h) (Or.inl ⟨by rfl, ?_⟩) (by assumption) ?_
                  rotate_left
                  · intro w hSw; (try dsimp only at hSw); go_simp; try with_reducible rfl
                  try simp only [put_y]
                  try simp only [Act.put]
                  try simp only [put_z]
                  refine wpAnyH_take (i := 7) (v := ?_) rfl (by kernel_rfl) (by kernel_rfl) (by kernel_rfl) (fun _ _ _ h => h) (Or.inl ⟨by rfl, ?_⟩) (by assumption) ?_
                  rotate_left
                  · intro w hSw; (try dsimp only at hSw); go_simp; try with_reducible rfl
                  try simp only [put_y]
                  try simp only [Act.put]
                  try simp only [put_z]
                  refine wpAnyH_take (i := 8) (v := ?_) rfl (by kernel_rfl) (by kernel_rfl) (by kernel_rfl) (fun _ _ _ h => h) (Or.inl ⟨by rfl, ?_⟩) (by assumption) ?_
                  rotate_left
                  · intro w hSw; (try dsimp only at hSw); go_simp; try with_reducible rfl
                  try simp only [put_y]
                  try simp only [Act.put]
                  try simp only [put_z]
                  refine wpAnyH_take (i := 9) (v := ?_) rfl (by kernel_rfl) (by kernel_rfl) (by kernel_rfl) (fun _ _ _ h => h) (Or.inl ⟨by rfl, ?_⟩) (by assumption) ?_
                  rotate_left
                  · intro w hSw; (try dsimp only at hSw); go_simp; try with_reducible rfl
                  try simp only [put_y]
                  try simp only [Act.put]
                  try simp only [put_z]
                  refine wpAnyH_take (i := 10) (v := ?_) rfl (by kernel_rfl) (by kernel_rfl) (by kernel_rfl) (fun _ _ _ h => h) (Or.inl ⟨by rfl, ?_⟩) (by assumption) ?_
                  rotate_left
                  · intro w hSw; (try dsimp only at hSw); go_simp; try with_reducible rfl
                  try simp only [put_y]
                  try simp only [Act.put]
                  try simp only [put_z]
                  refine wpAnyH_take (i := 11) (v := ?_) rfl (by kernel_rfl) (by kernel_rfl) (by kernel_rfl) (fun _ _ _ h => h) (Or.inl ⟨by rfl, ?_⟩) (by assumption) ?_
                  rotate_left
                  · intro w hSw; (try dsimp only at hSw); go_simp; try with_reducible rfl
                  try simp only [put_y]
                  try simp only [Act.put]
                  try simp only [put_z]
                  refine wpAnyH_take (i := 12) (v := ?_) rfl (by kernel_rfl) (by kernel_rfl) (by kernel_rfl) (fun _ _ _ h => h) (Or.inl ⟨by rfl, ?_⟩) (by assumption) ?_
                  rotate_left
                  · intro w hSw; (try dsimp only at hSw); go_simp; try with_reducible rfl
                  try simp only [put_y]
                  try simp only [Act.put]
                  try simp only [put_z]
                  refine wpAnyH_take (i := 13) (v := ?_) rfl (by kernel_rfl) (by kernel_rfl) (by kernel_rfl) (fun _ _ _ h => h) (Or.inl ⟨by rfl, ?_⟩) (by assumption) ?_
                  rotate_left
                  · intro w hSw; (try dsimp only at hSw); go_simp; try with_reducible rfl
                  try simp only [put_y]
                  try simp only [Act.put]
                  try simp only [put_z]
                  refine wpAnyH_take (i := 14) (v := ?_) rfl (by kernel_rfl) (by kernel_rfl) (by kernel_rfl) (fun _ _ _ h => h) (Or.inl ⟨by rfl, ?_⟩) (by assumption) ?_
                  rotate_left
                  · intro w hSw; (try dsimp only at hSw); go_simp; try with_reducible rfl
                  try simp only [put_y]
                  try simp only [Act.put]
                  try simp only [put_z]
                  refine wpAnyH_take (i := 15) (v := ?_) rfl (by kernel_rfl) (by kernel_rfl) (by kernel_rfl) (fun _ _ _ h => h) (Or.inl ⟨by rfl, ?_⟩) (by assumption) ?_
                  rotate_left
                  · intro w hSw; (try dsimp only at hSw); go_simp; try with_reducible rfl
                  try simp only [put_y]
                  try simp only [Act.put]
                  try simp only [put_z]
                  refine wpAnyH_take (i := 16) (v := ?_) rfl (by kernel_rfl) (by kernel_rfl) (by kernel_rfl) (fun _ _ _ h => h) (Or.inl ⟨by rfl, ?_⟩) (by assumption) ?_
                  rotate_left
                  · intro w hSw; (try dsimp only at hSw); go_simp; try with_reducible rfl
                  try simp only [put_y]
                  try simp only [Act.put]
                  try simp only [put_z]
                  refine wpAnyH_take (i := 17) (v := ?_) rfl (by kernel_rfl) (by kernel_rfl) (by kernel_rfl) (fun _ _ _ h => h) (Or.inl ⟨by rfl, ?_⟩) (by assumption) ?_
                  rotate_left
                  · intro w hSw; (try dsimp only at hSw); go_simp; try with_reducible rfl
                  try simp only [put_y]
                  try simp only [Act.put]
                  try simp only [put_z]
                  refine wpAnyH_take (i := 18) (v := ?_) rfl (by kernel_rfl) (by kernel_rfl) (by kernel_rfl) (fun _ _ _ h => h) (Or.inl ⟨by rfl, ?_⟩) (by assumption) ?_
                  rotate_left
                  · intro w hSw; (try dsimp only at hSw); go_simp; try with_reducible rfl
                  try simp only [put_y]
                  try simp only [Act.put]
                  try simp only [put_z]
                  refine wpAnyH_take (i := 19) (v := ?_) rfl (by kernel_rfl) (by kernel_rfl) (by kernel_rfl) (fun _ _ _ h => h) (Or.inl ⟨by rfl, ?_⟩) (by assumption) ?_
                  rotate_left
                  · intro w hSw; (try dsimp only at hSw); go_simp; try with_reducible rfl
                  try simp only [put_y]
                  try simp only [Act.put]
                  try simp only [put_z]
                  refine wpAnyH_take (i := 20) (v := ?_) rfl (by kernel_rfl) (by kernel_rfl) (by kernel_rfl) (fun _ _ _ h => h) (Or.inl ⟨by rfl, ?_⟩) (by assumption) ?_
                  rotate_left
                  · intro w hSw; (try dsimp only at hSw); go_simp; try with_reducible rfl
                  try simp only [put_y]
                  try simp only [Act.put]
                  try simp only [put_z]
                  refine wpAnyH_take (i := 21) (v := ?_) rfl (by kernel_rfl) (by kernel_rfl) (by kernel_rfl) (fun _ _ _ h => h) (Or.inl ⟨by rfl, ?_⟩) (by assumption) ?_
                  rotate_left
                  · intro w hSw; (try dsimp only at hSw); go_simp; try with_reducible rfl
                  try simp only [put_y]
                  try simp only [Act.put]
                  try simp only [put_z]
                  refine wpAnyH_take (i := 22) (v := ?_) rfl (by kernel_rfl) (by kernel_rfl) (by kernel_rfl) (fun _ _ _ h => h) (Or.inl ⟨by rfl, ?_⟩) (by assumption) ?_
                  rotate_left
                  · intro w hSw; (try dsimp only at hSw); go_simp; try with_reducible rfl
                  try simp only [put_y]
                  try simp only [Act.put]
                  try simp only [put_z]
                  refine wpAnyH_take (i := 23) (v := ?_) rfl (by kernel_rfl) (by kernel_rfl) (by kernel_rfl) (fun _ _ _ h => h) (Or.inl ⟨by rfl, ?_⟩) (by assumption) ?_
                  rotate_left
                  · intro w hSw; (try dsimp only at hSw); go_simp; try with_reducible rfl
                  try simp only [put_y]
                  try simp only [Act.put]
                  try simp only [put_z]
                  refine wpAnyH_take (i := 24) (v := ?_) rfl (by kernel_rfl) (by kernel_rfl) (by kernel_rfl) (fun _ _ _ h => h) (Or.inl ⟨by rfl, ?_⟩) (by assumption) ?_
                  rotate_left
                  · intro w hSw; (try dsimp only at hSw); go_simp; try with_reducible rfl
                  try simp only [put_y]
                  try simp only [Act.put]
                  try simp only [put_z]
                  refine wpAnyH_take (i := 25) (v := ?_) rfl (by kernel_rfl) (by kernel_rfl) (by kernel_rfl) (fun _ _ _ h => h) (Or.inl ⟨by rfl, ?_⟩) (by assumption) ?_
                  rotate_left
                  · intro w hSw; (try dsimp only at hSw); go_simp; try with_reducible rfl
                  try simp only [put_y]
                  try simp only [Act.put]
                  try simp only [put_z]
                  refine wpAnyH_take (i := 26) (v := ?_) rfl (by kernel_rfl) (by kernel_rfl) (by kernel_rfl) (fun _ _ _ h => h) (Or.inl ⟨by rfl, ?_⟩) (by assumption) ?_
                  rotate_left
                  · intro w hSw; (try dsimp only at hSw); go_simp; try with_reducible rfl
                  try simp only [put_y]
                  try simp only [Act.put]
                  try simp only [put_z]
                  refine wpAnyH_take (i := 27) (v := undef) rfl (by kernel_rfl) (by kernel_rfl) (by kernel_rfl) (fun _ _ _ h => h) (Or.inr ⟨by rfl, rfl⟩) (by assumption) ?_
                  try simp only [put_y]
                  try simp only [Act.put]
                  try simp only [put_z]
                  refine wpAnyH_take (i := 28) (v := undef) rfl (by kernel_rfl) (by kernel_rfl) (by kernel_rfl) (fun _ _ _ h => h) (Or.inr ⟨by rfl, rfl⟩) (by assumption) ?_
                  try simp only [put_y]
                  try simp only [Act.put]
                  try simp only [put_z]
                  refine wpAnyH_take (i := 29) (v := undef) rfl (by kernel_rfl) (by kernel_rfl) (by kernel_rfl) (fun _ _ _ h => h) (Or.inr ⟨by rfl, rfl⟩) (by assumption) ?_
                  try simp only [put_y]
                  try simp only [Act.put]
                  try simp only [put_z]
                  refine wpAnyH_take (i := 30) (v := undef) rfl (by kernel_rfl) (by kernel_rfl) (by kernel_rfl) (fun _ _ _ h => h) (Or.inr ⟨by rfl, rfl⟩) (by assumption) ?_
                  try simp only [put_y]
                  try simp only [Act.put]
                  try simp only [put_z]
                  refine wpAnyH_take (i := 31) (v := undef) rfl (by kernel_rfl) (by kernel_rfl) (by kernel_rfl) (fun _ _ _ h => h) (Or.inr ⟨by rfl, rfl⟩) (by assumption) ?_
                  try simp only [put_y]
                  try simp only [Act.put]
                  try simp only [put_z]
                  refine wpAnyH_take (i := 32) (v := undef) rfl (by kernel_rfl) (by kernel_rfl) (by kernel_rfl) (fun _ _ _ h => h) (Or.inr ⟨by rfl, rfl⟩) (by assumption) ?_
                  try simp only [put_y]
                  try simp only [Act.put]
                  try simp only [put_z]
                  refine wpAnyH_take (i := 33) (v := undef) rfl (by kernel_rfl) (by kernel_rfl) (by kernel_rfl) (fun _ _ _ h => h) (Or.inr ⟨by rfl, rfl⟩) (by assumption) ?_
                  try simp only [put_y]
                  try simp only [Act.put]
                  try simp only [put_z]
                  refine wpAnyH_take (i := 34) (v := undef) rfl (by kernel_rfl) (by kernel_rfl) (by kernel_rfl) (fun _ _ _ h => h) (Or.inr ⟨by rfl, rfl⟩) (by assumption) ?_
                  try simp only [put_y]
                  try simp only [Act.put]
                  try simp only [put_z]
                  refine wpAnyH_take (i := 35) (v := undef) rfl (by kernel_rfl) (by kernel_rfl) (by kernel_rfl) (fun _ _ _ h => h) (Or.inr ⟨by rfl, rfl⟩) (by assumption) ?_
                  try simp only [put_y]
                  try simp only [Act.put]
                  try simp only [put_z]
                  refine wpAnyH_take (i := 36) (v := undef) rfl (by kernel_rfl) (by kernel_rfl) (by kernel_rfl) (fun _ _ _ h => h) (Or.inr ⟨by rfl, rfl⟩) (by assumption) ?_
                  try simp only [put_y]
                  try simp only [Act.put]
                  try simp only [put_z]
                  refine wpAnyH_take (i := 37) (v := undef) rfl (by kernel_rfl) (by kernel_rfl) (by kernel_rfl) (fun _ _ _ h => h) (Or.inr ⟨by rfl, rfl⟩) (by assumption) ?_
                  try simp only [put_y]
                  try simp only [Act.put]
                  try simp only [put_z]
                  refine wpAnyH_take (i := 38) (v := undef) rfl (by kernel_rfl) (by kernel_rfl) (by kernel_rfl) (fun _ _ _ h => h) (Or.inr ⟨by rfl, rfl⟩) (by assumption) ?_
                  try simp only [put_y]
                  try simp only [Act.put]
                  try simp only [put_z]
                  refine wpAnyH_take (i := 39) (v := ?_) rfl (by kernel_rfl) (by kernel_rfl) (by kernel_rfl) (fun _ _ _ h => h) (Or.inl ⟨by rfl, ?_⟩) (by assumption) ?_
                  rotate_left
                  · intro w hSw; (try dsimp only at hSw); go_simp; try with_reducible rfl
                  try simp only [put_y]
                  try simp only [Act.put]
                  try simp only [put_z]
                  refine wpAnyH_done (by kernel_rfl) ?_ _
                  go_wp2_with fail
                  go_roundg (i - (k + 1))
                  case measure => rw [Hg2.out]; omega
                  case rel => exact ⟨k + 1, rfl, by omega, by go_num, HU9⟩
              · have y0 : (e0 == f0) = false := by simpa using x0
                clear x0
                refine wpAnyH_take (i := 0) (v := ?_) rfl (by kernel_rfl) (by kernel_rfl) (by kernel_rfl) (fun _ _ _ h => h) (Or.inl ⟨by rfl, ?_⟩) (by assumption) ?_
                rotate_left
                · intro w hSw; (try dsimp only at hSw); go_simp; try with_reducible rfl
                try simp only [put_y]
                try simp only [Act.put]
                try simp only [put_z]
                refine wpAnyH_take (i := 1) (v := ?_) rfl (by kernel_rfl) (by kernel_rfl) (by kernel_rfl) (fun _ _ _ h => h) (Or.inl ⟨by rfl, ?_⟩) (by assumption) ?_
                rotate_left
                · intro w hSw; (try dsimp only at hSw); go_simp; try with_reducible rfl
                try simp only [put_y]
                try simp only [Act.put]
                try simp only [put_z]
                refine wpAnyH_take (i := 2) (v := ?_) rfl (by kernel_rfl) (by kernel_rfl) (by kernel_rfl) (fun _ _ _ h => h) (Or.inl ⟨by rfl, ?_⟩) (by assumption) ?_
                rotate_left
                · intro w hSw; (try dsimp only at hSw); go_simp; try with_reducible rfl
                try simp only [put_y]
                try simp only [Act.put]
                try simp only [put_z]
                refine wpAnyH_take (i := 3) (v := ?_) rfl (by kernel_rfl) (by kernel_rfl) (by kernel_rfl) (fun _ _ _ h => h) (Or.inl ⟨by rfl, ?_⟩) (by assumption) ?_
                rotate_left
                · intro w hSw; (try dsimp only at hSw); go_simp; try with_reducible rfl
                try simp only [put_y]
                try simp only [Act.put]
                try simp only [put_z]
                refine wpAnyH_take (i := 4) (v := ?_) rfl (by kernel_rfl) (by kernel_rfl) (by kernel_rfl) (fun _ _ _ h => h) (Or.inl ⟨by rfl, ?_⟩) (by assumption) ?_
                rotate_left
                · intro w hSw; (try dsimp only at hSw); go_simp; try with_reducible rfl
                try simp only [put_y]
                try simp only [Act.put]
                try simp only [put_z]
                refine wpAnyH_take (i := 5) (v := ?_) rfl (by kernel_rfl) (by kernel_rfl) (by kernel_rfl) (fun _ _ _ h => h) (Or.inl ⟨by rfl, ?_⟩) (by assumption) ?_
                rotate_left
                · intro w hSw; (try dsimp only at hSw); go_simp; try with_reducible rfl
                try simp only [put_y]
                try simp only [Act.put]
                try simp only [put_z]
                refine wpAnyH_take (i := 6) (v := ?_) rfl (by kernel_rfl) (by kernel_rfl) (by kernel_rfl) (fun _ _ _ h => h) (Or.inl ⟨by rfl, ?_⟩) (by assumption) ?_
                rotate_left
                · intro w hSw; (try dsimp only at hSw); go_simp; try with_reducible rfl
                try simp only [put_y]
                try simp only [Act.put]
                try simp only [put_z]
                refine wpAnyH_take (i := 7) (v := ?_) rfl (by kernel_rfl) (by kernel_rfl) (by kernel_rfl) (fun _ _ _ h => h) (Or.inl ⟨by rfl, ?_⟩) (by assumption) ?_
                rotate_left
                · intro w hSw; (try dsimp only at hSw); go_simp; try with_reducible rfl
                try simp only [put_y]
                try simp only [Act.put]
                try simp only [put_z]
                refine wpAnyH_take (i := 8) (v := ?_) rfl (by kernel_rfl) (by kernel_rfl) (by kernel_rfl) (fun _ _ _ h => h) (Or.inl ⟨by rfl, ?_⟩) (by assumption) ?_
                rotate_left
                · intro w hSw; (try dsimp only at hSw); go_simp; try with_reducible rfl
                try simp only [put_y]
                try simp only [Act.put]
                try simp only [put_z]
                refine wpAnyH_take (i := 9) (v := ?_) rfl (by kernel_rfl) (by kernel_rfl) (by kernel_rfl) (fun _ _ _ h => h) (Or.inl ⟨by rfl, ?_⟩) (by assumption) ?_
                rotate_left
                · intro w hSw; (try dsimp only at hSw); go_simp; try with_reducible rfl
                try simp only [put_y]
                try simp only [Act.put]
                try simp only [put_z]
                refine wpAnyH_take (i := 10) (v := ?_) rfl (by kernel_rfl) (by kernel_rfl) (by kernel_rfl) (fun _ _ _ h => h) (Or.inl ⟨by rfl, ?_⟩) (by assumption) ?_
                rotate_left
                · intro w hSw; (try dsimp only at hSw); go_simp; try with_reducible rfl
                try simp only [put_y]
                try simp only [Act.put]
                try simp only [put_z]
                refine wpAnyH_take (i := 11) (v := ?_) rfl (by kernel_rfl) (by kernel_rfl) (by kernel_rfl) (fun _ _ _ h => h) (Or.inl ⟨by rfl, ?_⟩) (by assumption) ?_
                rotate_left
                · intro w hSw; (try dsimp only at hSw); go_simp; try with_reducible rfl
                try simp only [put_y]
                try simp only [Act.put]
                try simp only [put_z]
                refine wpAnyH_take (i := 12) (v := ?_) rfl (by kernel_rfl) (by kernel_rfl) (by kernel_rfl) (fun _ _ _ h => h) (Or.inl ⟨by rfl, ?_⟩) (by assumption) ?_
                rotate_left
                · intro w hSw; (try dsimp only at hSw); go_simp; try with_reducible rfl
                try simp only [put_y]
                try simp only [Act.put]
                try simp only [put_z]
                refine wpAnyH_take (i := 13) (v := undef) rfl (by kernel_rfl) (by kernel_rfl) (by kernel_rfl) (fun _ _ _ h => h) (Or.inr ⟨by rfl, rfl⟩) (by assumption) ?_
                try simp only [put_y]
                try simp only [Act.put]
                try simp only [put_z]
                refine wpAnyH_take (i := 14) (v := undef) rfl (by kernel_rfl) (by kernel_rfl) (by kernel_rfl) (fun _ _ _ h => h) (Or.inr ⟨by rfl, rfl⟩) (by assumption) ?_
                try simp only [put_y]
                try simp only [Act.put]
                try simp only [put_z]
                refine wpAnyH_take (i := 15) (v := undef) rfl (by kernel_rfl) (by kernel_rfl) (by kernel_rfl) (fun _ _ _ h => h) (Or.inr ⟨by rfl, rfl⟩) (by assumption) ?_
                try simp only [put_y]
                try simp only [Act.put]
                try simp only [put_z]
                refine wpAnyH_take (i := 16) (v := undef) rfl (by kernel_rfl) (by kernel_rfl) (by kernel_rfl) (fun _ _ _ h => h) (Or.inr ⟨by rfl, rfl⟩) (by assumption) ?_
                try simp only [put_y]
                try simp only [Act.put]
                try simp only [put_z]
                refine wpAnyH_take (i := 17) (v := undef) rfl (by kernel_rfl) (by kernel_rfl) (by kernel_rfl) (fun _ _ _ h => h) (Or.inr ⟨by rfl, rfl⟩) (by assumption) ?_
                try simp only [put_y]
                try simp only [Act.put]
                try simp only [put_z]
                refine wpAnyH_take (i := 18) (v := undef) rfl (by kernel_rfl) (by kernel_rfl) (by kernel_rfl) (fun _ _ _ h => h) (Or.inr ⟨by rfl, rfl⟩) (by assumption) ?_
                try simp only [put_y]
                try simp only [Act.put]
                try simp only [put_z]
                refine wpAnyH_take (i := 19) (v := undef) rfl (by kernel_rfl) (by kernel_rfl) (by kernel_rfl) (fun _ _ _ h => h) (Or.inr ⟨by rfl, rfl⟩) (by assumption) ?_
                try simp only [put_y]
                try simp only [Act.put]
                try simp only [put_z]
                refine wpAnyH_take (i := 20) (v := undef) rfl (by kernel_rfl) (by kernel_rfl) (by kernel_rfl) (fun _ _ _ h => h) (Or.inr ⟨by rfl, rfl⟩) (by assumption) ?_
                try simp only [put_y]
                try simp only [Act.put]
                try simp only [put_z]
                refine wpAnyH_take (i := 21) (v := undef) rfl (by kernel_rfl) (by kernel_rfl) (by kernel_rfl) (fun _ _ _ h => h) (Or.inr ⟨by rfl, rfl⟩) (by assumption) ?_
                try simp only [put_y]
                try simp only [Act.put]
                try simp only [put_z]
                refine wpAnyH_take (i := 22) (v := undef) rfl (by kernel_rfl) (by kernel_rfl) (by kernel_rfl) (fun _ _ _ h => h) (Or.inr ⟨by rfl, rfl⟩) (by assumption) ?_
                try simp only [put_y]
                try simp only [Act.put]
                try simp only [put_z]
                refine wpAnyH_take (i := 23) (v := undef) rfl (by kernel_rfl) (by kernel_rfl) (by kernel_rfl) (fun _ _ _ h => h) (Or.inr ⟨by rfl, rfl⟩) (by assumption) ?_
                try simp only [put_y]
                try simp only [Act.put]
                try simp only [put_z]
                refine wpAnyH_take (i := 24) (v := undef) rfl (by kernel_rfl) (by kernel_rfl) (by kernel_rfl) (fun _ _ _ h => h) (Or.inr ⟨by rfl, rfl⟩) (by assumption) ?_
                try simp only [put_y]
                try simp only [Act.put]
                try simp only [put_z]
                refine wpAnyH_take (i := 25) (v := ?_) rfl (by kernel_rfl) (by kernel_rfl) (by kernel_rfl) (fun _ _ _ h => h) (Or.inl ⟨by rfl, ?_⟩) (by assumption) ?_
                rotate_left
                · intro w hSw; (try dsimp only at hSw); go_simp; try with_reducible rfl
                try simp only [put_y]
                try simp only [Act.put]
                try simp only [put_z]
                refine wpAnyH_take (i := 26) (v := ?_) rfl (by kernel_rfl) (by kernel_rfl) (by kernel_rfl) (fun _ _ _ h => h) (Or.inl ⟨by rfl, ?_⟩) (by assumption) ?_
                rotate_left
                · intro w hSw; (try dsimp only at hSw); go_simp; try with_reducible rfl
                try simp only [put_y]
                try simp only [Act.put]
                try simp only [put_z]
                refine wpAnyH_take (i := 27) (v := undef) rfl (by kernel_rfl) (by kernel_rfl) (by kernel_rfl) (fun _ _ _ h => h) (Or.inr ⟨by rfl, rfl⟩) (by assumption) ?_
                try simp only [put_y]
                try simp only [Act.put]
                try simp only [put_z]
                refine wpAnyH_take (i := 28) (v := undef) rfl (by kernel_rfl) (by kernel_rfl) (by kernel_rfl) (fun _ _ _ h => h) (Or.inr ⟨by rfl, rfl⟩) (by assumption) ?_
                try simp only [put_y]
                try simp only [Act.put]
                try simp only [put_z]
                refine wpAnyH_take (i := 29) (v := undef) rfl (by kernel_rfl) (by kernel_rfl) (by kernel_rfl) (fun _ _ _ h => h) (Or.inr ⟨by rfl, rfl⟩) (by assumption) ?_
                try simp only [put_y]
                try simp only [Act.put]
                try simp only [put_z]
                refine wpAnyH_take (i := 30) (v := undef) rfl (by kernel_rfl) (by kernel_rfl) (by kernel_rfl) (fun _ _ _ h => h) (Or.inr ⟨by rfl, rfl⟩) (by assumption) ?_
                try simp only [put_y]
                try simp only [Act.put]
                try simp only [put_z]
                refine wpAnyH_take (i := 31) (v := undef) rfl (by kernel_rfl) (by kernel_rfl) (by kernel_rfl) (fun _ _ _ h => h) (Or.inr ⟨by rfl, rfl⟩) (by assumption) ?_
                try simp only [put_y]
                try simp only [Act.put]
                try simp only [put_z]
                refine wpAnyH_take (i := 32) (v := undef) rfl (by kernel_rfl) (by kernel_rfl) (by kernel_rfl) (fun _ _ _ h => h) (Or.inr ⟨by rfl, rfl⟩) (by assumption) ?_
                try simp only [put_y]
                try simp only [Act.put]
                try simp only [put_z]
                refine wpAnyH_take (i := 33) (v := undef) rfl (by kernel_rfl) (by kernel_rfl) (by kernel_rfl) (fun _ _ _ h => h) (Or.inr ⟨by rfl, rfl⟩) (by assumption) ?_
                try simp only [put_y]
                try simp only [Act.put]
                try simp only [put_z]
                refine wpAnyH_take (i := 34) (v := undef) rfl (by kernel_rfl) (by kernel_rfl) (by kernel_rfl) (fun _ _ _ h => h) (Or.inr ⟨by rfl, rfl⟩) (by assumption) ?_
                try simp only [put_y]
                try simp only [Act.put]
                try simp only [put_z]
                refine wpAnyH_take (i := 35) (v := undef) rfl (by kernel_rfl) (by kernel_rfl) (by kernel_rfl) (fun _ _ _ h => h) (Or.inr ⟨by rfl, rfl⟩) (by assumption) ?_
                try simp only [put_y]
                try simp only [Act.put]
                try simp only [put_z]
                refine wpAnyH_take (i := 36) (v := undef) rfl (by kernel_rfl) (by kernel_rfl) (by kernel_rfl) (fun _ _ _ h => h) (Or.inr ⟨by rfl, rfl⟩) (by assumption) ?_
                try simp only [put_y]
                try simp only [Act.put]
                try simp only [put_z]
                refine wpAnyH_take (i := 37) (v := undef) rfl (by kernel_rfl) (by kernel_rfl) (by kernel_rfl) (fun _ _ _ h => h) (Or.inr ⟨by rfl, rfl⟩) (by assumption) ?_
                try simp only [put_y]
                try simp only [Act.put]
                try simp only [put_z]
                refine wpAnyH_take (i := 38) (v := undef) rfl (by kernel_rfl) (by kernel_rfl) (by kernel_rfl) (fun _ _ _ h => h) (Or.inr ⟨by rfl, rfl⟩) (by assumption) ?_
                try simp only [put_y]
                try simp only [Act.put]
                try simp only [put_z]
                refine wpAnyH_take (i := 39) (v := ?_) rfl (by kernel_rfl) (by kernel_rfl) (by kernel_rfl) (fun _ _ _ h => h) (Or.inl ⟨by rfl, ?_⟩) (by assumption) ?_
                rotate_left
                · intro w hSw; (try dsimp only at hSw); go_simp; try with_reducible rfl
                try simp only [put_y]
                try simp only [Act.put]
                try simp only [put_z]
                refine wpAnyH_done (by kernel_rfl) ?_ _
                go_wp2_with fail
                go_roundg (i - (k + 1))
                case measure => rw [Hg2.out]; omega
                case rel => exact ⟨k + 1, rfl, by omega, by go_num, HU9⟩
            · obtain rfl : k = i := by omega
              have t1 : decide ((k : Int) < (k : Int)) = false := decide_eq_false (by omega)
              go_wp2_with fail
              go_roundg (N1 - (k + 1))
              case measure => rw [Hg.out]; omega
              case rel => exact ⟨k + 1, _, rfl, by omega, by go_num, rfl, HUN, HU6.then_non hu8⟩
        · obtain rfl : N1 = i := by omega
          have HU1 : Hid (u = u64w (evM ins L1)) := by
            show _ = _
            rw [Hu.out, List.take_of_length_le (by rw [HN1.out]; exact Nat.le_refl _)]
          have HU7 := HU5.then_non hu
          have hkp7 := PtK.upd hu (fun _ _ _ f => f) _ _ _ hkp5
          have hkq7 := PtK.upd hu (fun _ _ _ f => f) _ _ _ hkq5
          have hv17 := hv15.upd hu (fun _ _ _ f => f)
          have hv27 := hv2.upd hu (fun _ _ _ f => f)
          have hin7 := hin5.upd hu (fun _ _ _ f => f)
          have HBP := Lib.hid (hbp5.upd hu (fun f => f))
          have HBQ := Lib.hid (hbq5.upd hu (fun f => f))
          obtain ⟨w7, Hw7⟩ := nm wr
          rw [Hw7.out] at hkp7 hkq7 hv17 hv27 hin7 HBP HBQ HU7
          rw [Hw7.out]
          have H1L := Lib.hid (fun m (hm : m ∈ L1) => (H1.out m hm).1)
          clear H1 H1O Hu hu hkp5 hkq5 hv15 hv2 hin5 hbp5 hbq5 HU5 p0 p1 p2 p3 p4 q0 q1 q2 q3 q4 hk hlt Hw7 Hg
          go_wp2_with fail
          go_loopg [19, 24, 133] N2 (fun g v _ ix wr => ∃ (i : Nat) (z : Int), Hid (g = N2 - i) ∧ i ≤ N2 ∧ ix = .int .i64 i ∧ v = .int .u64 z ∧ Hid (z = u64w (evM ins (L2.take i))) ∧ Upd Non w7 wr)
          case atStart => exact ⟨0, 0, rfl, by omega, rfl, rfl, rfl, Upd.refl⟩
          case round =>
            obtain ⟨i, z, Hg, hk, rfl, rfl, Hu, hu⟩ := hrel
            by_cases hlt : i < N2
            · have hil : i < L2.length := by rw [HN2.out]; exact hlt
              obtain ⟨b, o, rfl, hF, hbw, KA, kc, g0, g1, g2, g3⟩ := (hv27.upd hu (fun _ _ _ f => f)).at_ hil
              have hmem := H2.out _ (List.getElem_mem hil)
              have HTK : Hid (L2.take (i + 1) = L2.take i ++ [L2[i]]) := by
                show _ = _
                rw [List.take_add_one, List.getElem?_eq_getElem hil]; rfl
              generalize L2[i] = m at *
              obtain ⟨es, cf⟩ := m
              dsimp only at g0 g1 g2 g3 hmem
              obtain ⟨hes3, hcf0, hcf1, hesr⟩ := hmem
              rw [hes3] at g0 g2
              obtain ⟨Wt, HWt⟩ := nm (wr.alloc (.cells #[.slice KA 3 kc, .int .u64 cf] 32))
              have et := HWt.out
              have hut : Upd Non wr Wt := by rw [← et]; exact Upd.refl.alloc _
              have hbt : Blk Wt wr.heap.size 32 #[.slice KA 3 kc, .int .u64 cf] := by rw [← et]; exact Blk.new _ _ _
              have HUt := hu.then_non hut
              have t0 := hbt.cell 0
              have t1 := hbt.cell 1
              have CT := Lib.hid (term_c Wt _ _ KA (some ⟨w.heap.size, 0, none⟩) kc 3 es ins cf (g3.upd hut (fun _ _ _ f => f)) (hin7.upd HUt (fun _ _ _ f => f)) (by rw [hes3, HI3.out]) (by rw [HI3.out]; omega) hesr ⟨by omega, hcf1⟩)
              rw [hes3, HI3.out] at CT
              obtain ⟨tv, Htv⟩ := nm (u64w (cf * monV ins es))
              rw [Htv.out] at CT
              have HUN : Hid (IntKind.u64.wrap (z + tv) = u64w (evM ins (L2.take (i + 1)))) := by
                show _ = _
                rw [HTK.out, evM_snoc, Hu.out, ← Htv.out, IntKind.wrap_u64]
                unfold u64w
                exact (Int.add_emod _ _ _).symm
              go_wp2_with fail
              refine CT.out.mono ?_
              rintro e w6 ⟨rfl, hu6⟩
              have HU6 := HUt.then_non hu6
              clear CT t0 t1 hbt et HWt g0 g1 g2 g3 hes3 hesr hut hu6 HUt hu Hu HTK Htv
              go_wp2_with fail
              go_roundg (N2 - (i + 1))
              case measure => rw [Hg.out]; omega
              case rel => exact ⟨i + 1, _, rfl, by omega, by go_num, rfl, HUN, HU6⟩
            · obtain rfl : N2 = i := by omega
              have hz : z = IntKind.u64.wrap v2 := by
                rw [Hu.out, List.take_of_length_le (by rw [HN2.out]; exact Nat.le_refl _), IntKind.wrap_u64, HVm2.out]
                rfl
              have hu1 : u = IntKind.u64.wrap v1 := by
                rw [HU1.out, IntKind.wrap_u64, HVm1.out]
                rfl
              have hbp8 := HBP.out.upd hu (fun f => f)
              have hkp8 := PtK.upd hu (fun _ _ _ f => f) _ _ _ hkp7
              have hin8 := hin7.upd hu (fun _ _ _ f => f)
              have p0 := hbp8.cell 0
              have p1 := hbp8.cell 1
              have p2 := hbp8.cell 2
              have p3 := hbp8.cell 3
              have p4 := hbp8.cell 4
              have CA := Lib.hid (r18Evaluate_c ins _ (some ⟨w.heap.size, 0, none⟩) 3 (by rw [HI3.out]; omega) p wr _ KP kp hkp8 hin8 (by rw [HI3.out]; exact HP.out) (by omega))
              unfold pv evR at CA
              rw [HI3.out, HE1.out] at CA
              simp only [Option.getD_some, Option.isSome_some] at CA
              clear Hu HU1 hkp8 hin8 hbp8
              go_wp2_with fail
              refine CA.out.mono ?_
              rintro e w9 ⟨rfl, hu9⟩
              have HU9 := hu.then_non hu9
              have hbq9 := HBQ.out.upd HU9 (fun f => f)
              have q0 := hbq9.cell 0
              have q1 := hbq9.cell 1
              have q2 := hbq9.cell 2
              have q3 := hbq9.cell 3
              have q4 := hbq9.cell 4
              have CB := Lib.hid (r18Evaluate_c ins _ (some ⟨w.heap.size, 0, none⟩) 3 (by rw [HI3.out]; omega) q w9 _ KQ kq (PtK.upd HU9 (fun _ _ _ f => f) _ _ _ hkq7) (hin7.upd HU9 (fun _ _ _ f => f)) (by rw [HI3.out]; exact HQ.out) (by omega))
              unfold pv evR at CB
              rw [HI3.out, HE2.out] at CB
              simp only [Option.getD_some, Option.isSome_some] at CB
              clear CA p0 p1 p2 p3 p4 hbq9
              go_wp2_with fail
              refine CB.out.mono ?_
              rintro e w10 ⟨rfl, hu10⟩
              have HU10 := HU9.then_non hu10
              have CS := Lib.hid (samePoly_c w10 _ _ A1 A2 n1 n2 L1 L2 (hv17.upd HU10 (fun _ _ _ f => f)) (hv27.upd HU10 (fun _ _ _ f => f)) (fun m hm => by rw [H1L.out m hm]; omega) (by rw [HN1.out]; omega))
              rw [HN1.out, HN2.out] at CS
              have HUE := HU7.then_non HU10
              clear CB q0 q1 q2 q3 q4 hv17 hv27 hkp7 hkq7 hin7
              subst hz
              subst hu1
              by_cases hL : L1 = L2
              · have hvv : v1 = v2 := i64_eq HPI.out.1 HPI.out.2 (by rw [HVm1.out, HVm2.out, hL])
                subst hvv
                rw [show decide (L1 = L2) = true from decide_eq_true hL] at CS
                clear hL
                go_wp2_with fail
                refine CS.out.mono ?_
                rintro e w11 ⟨rfl, hu11⟩
                have CE := Lib.hid (poExamples_c w11)
                go_wp2_with fail
                refine CE.out.mono ?_
                rintro e w12 ⟨rfl, hu12⟩
                go_wp2_with fail
                go_ret
                exact ⟨rfl, (HUE.then_non hu11).then_non hu12⟩
              · rw [show decide (L1 = L2) = false from decide_eq_false hL] at CS
                clear hL
                go_wp2_with fail
                refine CS.out.mono ?_
                rintro e w11 ⟨rfl, hu11⟩
                have CE := Lib.hid (poExamples_c w11)
                go_wp2_with fail
                refine CE.out.mono ?_
                rintro e w12 ⟨rfl, hu12⟩
                go_wp2_with fail
                go_ret
                exact ⟨rfl, (HUE.then_non hu11).then_non hu12⟩
end Go.Proofs.Ytnefhokojbkppaa
