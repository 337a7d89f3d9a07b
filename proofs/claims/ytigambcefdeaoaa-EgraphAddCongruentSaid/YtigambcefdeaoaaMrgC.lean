/-
  What (*egraph.Graph).merge does: it joins two classes and records the step.
-/
import Derived.Test.YtigambcefdeaoaaMrgF
import Derived.Deep.RegionWith
import Derived.Deep.CutBlock
namespace Go.Proofs.Ytigambcefdeaoaa
open Go.RowKit

theorem cell_set_other {w : World} {b i j : Nat} {u v : Value} (h : w.cell? ⟨b, j, none⟩ = some v) (hne : i ≠ j) : (w.setCell ⟨b, i, none⟩ u).cell? ⟨b, j, none⟩ = some v := by
  rw [World.cell?_setCell_other]
  · exact h
  · intro e
    injection e with _ e2
    exact hne e2

theorem GM.fown {w : World} {ρ : Nat → Role} {gb : Nat} {a : GA} {G : EG} (h : GM w ρ gb a G) : Own w 3 1 a.f G.L.length a.fc (icells (clL G.L G.c)) := by
  have := h.f.1
  rwa [clL_len] at this

set_option maxRecDepth 100000 in
set_option maxHeartbeats 4000000 in
theorem gMerge_c (w : World) (ρ : Nat → Role) (gb : Nat) (a : GA) (G : EG) (h : GM w ρ gb a G) (hn : G.L.length ≤ 2000) (hT : G.T.length ≤ 1000000000) (hnm : Named G.L.length G.c) (s : Stp) (i j : Nat) (hi : s.l = i) (hj : s.r = j) (hil : i < G.L.length) (hjl : j < G.L.length) (hne : G.c i ≠ G.c j)
    (VA MA : Option Addr) (vc mc : Nat) (F : Nat → Prop) (hv : Ints w F VA s.vars) (hm : Ints w F MA s.imms) (hF : ∀ k, k < w.heap.size → F k → ρ k = .no) (hvl : s.vars.length ≤ 100000000000) (hml : s.imms.length ≤ 100000000000) :
    Calls Try.prog 38 #[gp gb, .agg #[.int .i64 s.l, .int .i64 s.r, .int .i64 s.why, .slice VA s.vars.length vc, .slice MA s.imms.length mc]] w fun e w' =>
      e = .returned (.tuple #[]) ∧ ∃ ρ' a', GM w' ρ' gb a' (G.merge s) ∧ Upd (Mine ρ) w w' ∧ ∀ k, k < w.heap.size → ρ' k = ρ k := by
  obtain ⟨l, r, y, vs, ms⟩ := s
  dsimp only at hi hj hv hm hvl hml ⊢
  subst hi; subst hj
  have hv0 := hv.mono (G := fun k => k < w.heap.size ∧ ρ k = .no) (fun k hk hf => ⟨hk, hF k hk hf⟩)
  have hm0 := hm.mono (G := fun k => k < w.heap.size ∧ ρ k = .no) (fun k hk hf => ⟨hk, hF k hk hf⟩)
  clear hv hm hF
  obtain ⟨W, HW⟩ := nm (w.alloc (.cells #[.int .i64 (i : Int), .int .i64 (j : Int), .int .i64 y, .slice VA vs.length vc, .slice MA ms.length mc] 34))
  have hU : Upd Non w W := by rw [← HW.out]; exact Upd.refl.alloc _
  have hb : Blk W w.heap.size 34 #[.int .i64 (i : Int), .int .i64 (j : Int), .int .i64 y, .slice VA vs.length vc, .slice MA ms.length mc] := by rw [← HW.out]; exact Blk.new _ _ _
  have hv1 := hv0.upd hU (fun _ _ _ f => f)
  have hm1 := hm0.upd hU (fun _ _ _ f => f)
  have e0 := HW.out
  have hM := h.non hU
  have hgw : gb < w.heap.size := h.blk.lt
  have Hbw := Lib.hid h.bnd
  clear hv0 hm0 h
  have c2 := hM.c2
  obtain ⟨fb, ef, hfb, hci⟩ := hM.fat hil
  obtain ⟨fb', ef', _, hcj⟩ := hM.fat hjl
  obtain rfl : fb = fb' := by rw [ef] at ef'; injection ef' with e; injection e
  clear ef'
  rw [ef] at c2
  have d0 := hb.cell 0
  have d1 := hb.cell 1
  have hfr : ρ fb = .find := hM.f.2 fb (by rw [ef]; exact At.some_.2 rfl)
  have hgr := hM.me
  have hgf : gb ≠ fb := fun e => by rw [e, hfr] at hgr; cases hgr
  have hxl := hnm.le i hil
  have hyl := hnm.le j hjl
  obtain ⟨mS, hmSl, hmo, hmr, hmv⟩ := hM.m
  obtain ⟨mb, em⟩ := hmo.some_ (by omega)
  rw [em] at hmo hmr
  have c3 := hM.c3
  rw [em] at c3
  have hmbr : ρ mb = .mem := hmr mb (At.some_.2 rfl)
  have hfo := hM.fown
  rw [ef] at hfo
  have hgm : gb ≠ mb := fun e => by rw [e, hmbr] at hgr; cases hgr
  have hfm : fb ≠ mb := fun e => by rw [e, hmbr] at hfr; cases hfr
  have hmbw : mb < w.heap.size := Hbw.out mb (by rw [hmbr]; simp)
  have hfbw : fb < w.heap.size := Hbw.out fb (by rw [hfr]; simp)
  have hcm : ∀ k, k < G.L.length → W.cell? ⟨mb, k, none⟩ = some (.slice (mS.getD k (none, 0)).1 (memL G.L.length G.c k).length (mS.getD k (none, 0)).2) := fun k hk => by
    have hk' : k < (scells G.L.length G.c mS).length := by simp [scells]; exact hk
    rw [hmo.cell_ hk']
    simp [scells]
  have HCM := Lib.hid hcm
  have HMV := Lib.hid hmv
  have hci2 := hnm.lt hil
  have hcj2 := hnm.lt hjl
  clear hcm hmv
  have hcl : clL G.L G.c = (List.range G.L.length).map fun k => (G.c k : Int) := rfl
  rw [hcl] at hfo
  clear hcl
  have HNM := Lib.hid hnm
  clear hnm
  obtain ⟨n, Hn⟩ := nm G.L.length
  rw [Hn.out] at hn hil hjl c2 c3 hfo hmo HCM HMV hci2 hcj2 hmSl
  obtain ⟨x, Hx⟩ := nm (G.c i)
  obtain ⟨z, Hz⟩ := nm (G.c j)
  rw [Hx.out] at hci hxl hne hci2
  rw [Hz.out] at hcj hyl hne hcj2
  have hMM := Lib.hid hM
  clear hM
  unfold gp
  obtain ⟨lo, hlo⟩ : ∃ lo, min x z = lo := ⟨_, rfl⟩
  obtain ⟨hi, hhi⟩ : ∃ hi, max x z = hi := ⟨_, rfl⟩
  have Hmin : Hid (min (G.c i) (G.c j) = lo) := by show _ = _; rw [Hx.out, Hz.out]; omega
  have Hmax : Hid (max (G.c i) (G.c j) = hi) := by show _ = _; rw [Hx.out, Hz.out]; omega
  have hlohi : lo < hi := by omega
  have hlon : lo < n := by omega
  have hhin : hi < n := by omega
  have cl := HCM.out lo (by omega)
  have ch := HCM.out hi (by omega)
  obtain ⟨hlv, hlc⟩ := HMV.out lo (by omega)
  obtain ⟨hhv, hhc⟩ := HMV.out hi (by omega)
  have hll := memL_length_le (n := n) (c := G.c) (hi := lo)
  have hhl := memL_length_le (n := n) (c := G.c) (hi := hi)
  generalize (mS.getD lo (none, 0)).1 = LA at *
  generalize (mS.getD lo (none, 0)).2 = lcap at *
  generalize (mS.getD hi (none, 0)).1 = HA at *
  generalize (mS.getD hi (none, 0)).2 = hcap at *
  have HT0 : Hid (turned n G.c lo hi 0 = (List.range n).map fun k => (G.c k : Int)) := rfl
  have HTS := Lib.hid (fun t => turned_succ (n := n) (c := G.c) (lo := lo) (hi := hi) (t := t))
  have HTL := Lib.hid (fun t => turned_len (n := n) (c := G.c) (lo := lo) (hi := hi) t)
  have HTA := Lib.hid (turned_all (n := n) Hmin.out Hmax.out)
  have HMG := Lib.hid (fun t => memL_get (n := n) (c := G.c) (hi := hi) (t := t))
  have HML := Lib.hid (memL_lo (n := n) Hmin.out Hmax.out (by omega))
  have HMH := Lib.hid (memL_hi (n := n) Hmin.out Hmax.out (by omega))
  obtain ⟨xs, Hxs⟩ := nm (memL n G.c hi)
  obtain ⟨ls, Hls⟩ := nm (memL n G.c lo)
  simp only [Hxs.out] at ch hhv hhc hhl HTS HTA HMG HML
  simp only [Hls.out] at cl hlv hlc hll HML
  go_enter Try.func38, Try.ntmps38
  go_wp2_with fail
  go_quiet (fail)
  go_upto_if 26 with fail
  go_cut [4, 5] (fun s4 s5 wx => s4 = .int .i64 (lo : Int) ∧ s5 = .int .i64 (hi : Int) ∧ wx = W.drewN nq)
  case first =>
    by_cases hzx : z < x
    · obtain rfl : z = lo := by omega
      obtain rfl : x = hi := by omega
      go_wp2_with fail
      go_meet
      exact ⟨rfl, rfl, rfl⟩
    · obtain rfl : x = lo := by omega
      obtain rfl : z = hi := by omega
      go_wp2_with fail
      go_meet
      exact ⟨rfl, rfl, rfl⟩
  case rest =>
  obtain ⟨rfl, rfl, rfl⟩ := hcut
  clear hci hcj Hx Hz hxl hyl hlo hhi
  go_wp2_with fail
  go_loopg [7, 37] xs.length (fun g _ iv wr => ∃ t : Nat, Hid (g = xs.length - t) ∧ t ≤ xs.length ∧ iv = .int .i64 t ∧ Own wr 3 1 (some ⟨fb, 0, none⟩) n a.fc (icells (turned n G.c lo hi t)) ∧ Upd (· = fb) W wr)
  case atStart => exact ⟨0, rfl, by omega, rfl, by rw [HT0.out]; exact hfo, Upd.refl.drewN nq⟩
  case round =>
    clear hfo d0 d1
    obtain ⟨t, Hg, ht, rfl, ho, hu⟩ := hrel
    have cg2 := cell_upd c2 hu hgf
    by_cases hlt : t < xs.length
    · obtain ⟨hb1, ho1, rfl, hhr, hhb, hch⟩ := (hhv.upd hu (fun k hk hr e => by rw [e, hfr] at hr; cases hr)).at_ hlt
      obtain ⟨q, hq1, hq2, hq3⟩ := HMG.out t hlt
      have hts := HTS.out t hlt
      rw [hq1] at hch hts
      rw [Int.toNat_natCast] at hts
      obtain ⟨v, cv⟩ : ∃ v, wr.cell? ⟨fb, q, none⟩ = some (.int .i64 v) := ⟨_, by rw [ho.cell_ (by simp [icells, HTL.out t]; omega)]; simp [icells]; rfl⟩
      have fv := ho.frozen_ q
      have ho2 := ho.set_ q (.int .i64 (lo : Int))
      rw [show (icells (turned n G.c lo hi t)).set q (.int .i64 (lo : Int)) = icells (turned n G.c lo hi (t + 1)) by rw [hts]; simp [icells, List.map_set]] at ho2
      have hu2 := hu.setCell (p := ⟨fb, q, none⟩) (.inl rfl) (.int .i64 (lo : Int))
      clear hts hq1 hq3 ho
      go_wp2_with fail
      go_roundg (xs.length - (t + 1))
      case measure => rw [Hg.out]; omega
      case rel => exact ⟨t + 1, rfl, by omega, by go_num, ho2, hu2⟩
    · obtain rfl : xs.length = t := by omega
      rw [HTA.out] at ho
      have cg3 := cell_upd c3 hu hgf
      have clw := cell_upd cl hu (fun e => hfm e.symm)
      have chw := cell_upd ch hu (fun e => hfm e.symm)
      have hlw := hlv.upd hu (fun k hk hr e => by rw [e, hfr] at hr; cases hr)
      have hhw := hhv.upd hu (fun k hk hr e => by rw [e, hfr] at hr; cases hr)
      have hmw := hmo.upd hu (fun k hk e => by rw [At.some_] at hk; omega)
      clear cl ch c3 c2 cg2
      go_wp2_with fail
      have C5 := Lib.hid (mergeSorted_c wr.drew (fun k => ρ k = .ins) LA HA lcap hcap ls xs (hlw.upd (Upd.refl.drew (S := Non)) (fun _ _ _ f => f)) (hhw.upd (Upd.refl.drew (S := Non)) (fun _ _ _ f => f)) hlc hhc (by omega) (by omega))
      rw [← HML.out] at C5
      have i1 : (0 : Int) ≤ (lo : Int) := by omega
      have i2 : (lo : Int) < (n : Int) := by omega
      have i3 : (0 : Int) ≤ (hi : Int) := by omega
      have i4 : (hi : Int) < (n : Int) := by omega
      obtain ⟨M, HMd⟩ := nm (memL n (joinc G.c i j) lo)
      rw [HMd.out] at C5
      go_cut [68] (fun _ wx => ∃ (R : Option Addr) (rc : Nat) (w5 : World), Own w5 3 1 R M.length rc (icells M) ∧ Hid (∀ k, At R k → W.heap.size ≤ k) ∧ Upd Non wr w5 ∧ wx = w5.setCell ⟨mb, lo, none⟩ (.slice R M.length rc))
      case first =>
        have k0 : wr.drew.cell? ⟨gb, 3, none⟩ = some (.slice (some ⟨mb, 0, none⟩) n a.mc) ∧ wr.drew.cell? ⟨mb, hi, none⟩ = some (.slice HA xs.length hcap) := ⟨cg3, chw⟩
        refine wp_region_held_drew (S := fun w' => w'.cell? ⟨gb, 3, none⟩ = some (.slice (some ⟨mb, 0, none⟩) n a.mc) ∧ w'.cell? ⟨mb, hi, none⟩ = some (.slice HA xs.length hcap)) (by kernel_rfl) k0 (fun hHeld => ?_)
        refine wpAnyH_take (i := 0) (v := ?_) rfl (by kernel_rfl) (by kernel_rfl) (by kernel_rfl) (fun _ _ _ h => h) (Or.inl ⟨by rfl, ?_⟩) (by assumption) ?_
        rotate_left
        · intro w hSw; (try dsimp only at hSw); go_simp; try with_reducible rfl
        try simp only [put_z]
        refine wpAnyH_take (i := 1) (v := ?_) rfl (by kernel_rfl) (by kernel_rfl) (by kernel_rfl) (fun _ _ _ h => h) (Or.inl ⟨by rfl, ?_⟩) (by assumption) ?_
        rotate_left
        · intro w hSw; (try dsimp only at hSw); go_simp; try with_reducible rfl
        try simp only [put_z]
        refine wpAnyH_take (i := 2) (v := ?_) rfl (by kernel_rfl) (by kernel_rfl) (by kernel_rfl) (fun _ _ _ h => h) (Or.inl ⟨by rfl, ?_⟩) (by assumption) ?_
        rotate_left
        · intro w hSw; (try dsimp only at hSw); go_simp; try with_reducible rfl
        try simp only [put_z]
        refine wpAnyH_take (i := 3) (v := ?_) rfl (by kernel_rfl) (by kernel_rfl) (by kernel_rfl) (fun _ _ _ h => h) (Or.inl ⟨by rfl, ?_⟩) (by assumption) ?_
        rotate_left
        · intro w hSw; (try dsimp only at hSw); go_simp; try with_reducible rfl
        try simp only [put_z]
        refine wpAnyH_take (i := 4) (v := ?_) rfl (by kernel_rfl) (by kernel_rfl) (by kernel_rfl) (fun _ _ _ h => h) (Or.inl ⟨by rfl, ?_⟩) (by assumption) ?_
        rotate_left
        · intro w hSw; (try dsimp only at hSw); go_simp; try with_reducible rfl
        try simp only [put_z]
        refine wpAnyH_take (i := 5) (v := ?_) rfl (by kernel_rfl) (by kernel_rfl) (by kernel_rfl) (fun _ _ _ h => h) (Or.inl ⟨by rfl, ?_⟩) (by assumption) ?_
        rotate_left
        · intro w hSw; (try dsimp only at hSw); go_simp; try with_reducible rfl
        try simp only [put_z]
        refine wpAnyH_take (i := 6) (v := ?_) rfl (by kernel_rfl) (by kernel_rfl) (by kernel_rfl) (fun _ _ _ h => h) (Or.inl ⟨by rfl, ?_⟩) (by assumption) ?_
        rotate_left
        · intro w hSw; (try dsimp only at hSw); go_simp; try with_reducible rfl
        try simp only [put_z]
        refine wpAnyH_take (i := 7) (v := ?_) rfl (by kernel_rfl) (by kernel_rfl) (by kernel_rfl) (fun _ _ _ h => h) (Or.inl ⟨by rfl, ?_⟩) (by assumption) ?_
        rotate_left
        · intro w hSw; (try dsimp only at hSw); go_simp; try with_reducible rfl
        try simp only [put_z]
        refine wpAnyH_take (i := 8) (v := ?_) rfl (by kernel_rfl) (by kernel_rfl) (by kernel_rfl) (fun _ _ _ h => h) (Or.inl ⟨by rfl, ?_⟩) (by assumption) ?_
        rotate_left
        · intro w hSw; (try dsimp only at hSw); go_simp; try with_reducible rfl
        try simp only [put_z]
        refine wpAnyH_take (i := 9) (v := ?_) rfl (by kernel_rfl) (by kernel_rfl) (by kernel_rfl) (fun _ _ _ h => h) (Or.inl ⟨by rfl, ?_⟩) (by assumption) ?_
        rotate_left
        · intro w hSw; (try dsimp only at hSw); go_simp; try with_reducible rfl
        try simp only [put_z]
        refine wpAnyH_take (i := 10) (v := ?_) rfl (by kernel_rfl) (by kernel_rfl) (by kernel_rfl) (fun _ _ _ h => h) (Or.inl ⟨by rfl, ?_⟩) (by assumption) ?_
        rotate_left
        · intro w hSw; (try dsimp only at hSw); go_simp; try with_reducible rfl
        try simp only [put_z]
        refine wpAnyH_take (i := 12) (v := ?_) rfl (by kernel_rfl) (by kernel_rfl) (by kernel_rfl) (fun _ _ _ h => h) (Or.inl ⟨by rfl, ?_⟩) (by assumption) ?_
        rotate_left
        · intro w hSw; (try dsimp only at hSw); go_simp; try with_reducible rfl
        try simp only [put_z]
        refine wpAnyH_take (i := 13) (v := ?_) rfl (by kernel_rfl) (by kernel_rfl) (by kernel_rfl) (fun _ _ _ h => h) (Or.inl ⟨by rfl, ?_⟩) (by assumption) ?_
        rotate_left
        · intro w hSw; (try dsimp only at hSw); go_simp; try with_reducible rfl
        try simp only [put_z]
        refine wpAnyH_take (i := 14) (v := ?_) rfl (by kernel_rfl) (by kernel_rfl) (by kernel_rfl) (fun _ _ _ h => h) (Or.inl ⟨by rfl, ?_⟩) (by assumption) ?_
        rotate_left
        · intro w hSw; (try dsimp only at hSw); go_simp; try with_reducible rfl
        try simp only [put_z]
        refine wpAnyH_take (i := 15) (v := ?_) rfl (by kernel_rfl) (by kernel_rfl) (by kernel_rfl) (fun _ _ _ h => h) (Or.inl ⟨by rfl, ?_⟩) (by assumption) ?_
        rotate_left
        · intro w hSw; (try dsimp only at hSw); go_simp; try with_reducible rfl
        try simp only [put_z]
        refine wpAnyH_take (i := 16) (v := ?_) rfl (by kernel_rfl) (by kernel_rfl) (by kernel_rfl) (fun _ _ _ h => h) (Or.inl ⟨by rfl, ?_⟩) (by assumption) ?_
        rotate_left
        · intro w hSw; (try dsimp only at hSw); go_simp; try with_reducible rfl
        try simp only [put_z]
        refine wpAnyH_take (i := 17) (v := ?_) rfl (by kernel_rfl) (by kernel_rfl) (by kernel_rfl) (fun _ _ _ h => h) (Or.inl ⟨by rfl, ?_⟩) (by assumption) ?_
        rotate_left
        · intro w hSw; (try dsimp only at hSw); go_simp; try with_reducible rfl
        try simp only [put_z]
        refine wpAnyH_take (i := 18) (v := ?_) rfl (by kernel_rfl) (by kernel_rfl) (by kernel_rfl) (fun _ _ _ h => h) (Or.inl ⟨by rfl, ?_⟩) (by assumption) ?_
        rotate_left
        · intro w hSw; (try dsimp only at hSw); go_simp; try with_reducible rfl
        try simp only [put_z]
        refine wpAnyH_ready (rs := [11]) (by kernel_rfl) (by simp) ?_
        refine AllReadyH.cons rfl (fun K hK => ?_) AllReadyH.nil
        go_simp
        refine hK.out _ _ ?_ (fun hHeld => ?_)
        · exact k0
        clear hK K
        try simp only [put_z]
        refine wpAnyH_ready (rs := [19]) (by kernel_rfl) (by simp) ?_
        refine AllReadyH.cons rfl (fun K hK => ?_) AllReadyH.nil
        go_simp
        refine C5.out.mono ?_
        rintro e w5 ⟨R, rc, rfl, hoR, hRn, hu5'⟩
        have hu5 : Upd Non wr w5 := Upd.refl.drew.then_non hu5'
        have k5 : w5.cell? ⟨gb, 3, none⟩ = some (.slice (some ⟨mb, 0, none⟩) n a.mc) ∧ w5.cell? ⟨mb, hi, none⟩ = some (.slice HA xs.length hcap) := ⟨cell_upd cg3 hu5 (fun f => f), cell_upd chw hu5 (fun f => f)⟩
        have k2 := cell_upd clw hu5 (fun f => f)
        have hm5 := hmw.upd hu5 (fun _ _ f => f)
        have f5 := hm5.frozen_ lo
        go_wp2_with fail
        refine hK.out _ _ ?_ (fun hHeld => ?_)
        · exact k5
        clear hK K
        try simp only [put_z]
        refine wpAnyH_take (i := 20) (v := ?_) rfl (by kernel_rfl) (by kernel_rfl) (by kernel_rfl) (fun _ _ _ h => h) (Or.inl ⟨by rfl, ?_⟩) (by assumption) ?_
        rotate_left
        · intro w hSw; (try dsimp only at hSw); go_simp; try with_reducible rfl
        try simp only [put_z]
        refine wpAnyH_ready (rs := [21]) (by kernel_rfl) (by simp) ?_
        refine AllReadyH.cons rfl (fun K hK => ?_) AllReadyH.nil
        go_simp
        refine hK.out _ _ ?_ (fun hHeld => ?_)
        · exact ⟨cell_upd k5.1 (updCell w5 mb lo _) hgm, cell_set_other k5.2 (by omega)⟩
        clear hK K
        try simp only [put_z]
        refine wpAnyH_done (by kernel_rfl) ?_ _
        go_wp2_with fail
        go_meet
        exact ⟨R, rc, w5, hoR, fun k hk => Nat.le_trans hu.size (hRn k hk), hu5, rfl⟩
      case rest =>
      obtain ⟨R, rc, w5, hoR, HRn, hu5, rfl⟩ := hcut
      have hm5 := hmw.upd hu5 (fun _ _ f => f)
      have k5 := cell_upd cg3 hu5 (fun f => f)
      have hm6 := hm5.set_ lo (.slice R M.length rc)
      have cg6 := cell_upd k5 (updCell w5 mb lo (.slice R M.length rc)) hgm
      obtain ⟨v6, c6⟩ : ∃ v, (w5.setCell ⟨mb, lo, none⟩ (.slice R M.length rc)).cell? ⟨mb, hi, none⟩ = some v := ⟨_, hm6.cell_ (by simp [scells]; omega)⟩
      have f6 := hm6.frozen_ hi
      have hm7 := hm6.set_ hi (.slice none 0 0)
      have hU6 : Upd (fun k => k = fb ∨ k = mb) W ((w5.setCell ⟨mb, lo, none⟩ (.slice R M.length rc)).setCell ⟨mb, hi, none⟩ (.slice none 0 0)) :=
        (((hu.mono (T := fun k => k = fb ∨ k = mb) (fun k _ e => .inl e)).then_non hu5).setCell (p := ⟨mb, lo, none⟩) (.inl (.inr rfl)) _).setCell (p := ⟨mb, hi, none⟩) (.inl (.inr rfl)) _
      obtain ⟨w6, H6⟩ := nm ((w5.setCell ⟨mb, lo, none⟩ (.slice R M.length rc)).setCell ⟨mb, hi, none⟩ (.slice none 0 0))
      rw [H6.out] at hm7 hU6
      have e6 := H6.out
      have hb6 := hb.upd hU6 (fun h => by omega)
      have b0 := hb6.cell 0
      have b1 := hb6.cell 1
      have b2 := hb6.cell 2
      have b3 := hb6.cell 3
      have b4 := hb6.cell 4
      have hMMb := hMM.out.blk.upd hU6 (fun h => by omega)
      have c66 : w6.cell? ⟨gb, 6, none⟩ = some (.slice a.t G.T.length a.tc) := hMMb.cell 6
      obtain ⟨tcs, hto, htc, htr⟩ := hMM.out.t
      have hto6 := hto.upd hU6 (fun k hk h => by have := htr k hk; rcases h with rfl | rfl; rw [hfr] at this; cases this; rw [hmbr] at this; cases this)
      have hv6 := hv1.upd hU6 (fun k _ hk h => by have := hk.2; rcases h with rfl | rfl; rw [hfr] at this; cases this; rw [hmbr] at this; cases this)
      have hm6' := hm1.upd hU6 (fun k _ hk h => by have := hk.2; rcases h with rfl | rfl; rw [hfr] at this; cases this; rw [hmbr] at this; cases this)
      have C7 := Lib.hid (cloneStep_c w6.drew ⟨i, j, y, vs, ms⟩ VA MA vc mc (fun k => k < w.heap.size ∧ ρ k = .no) hv6 hm6' hvl hml)
      dsimp only at C7
      go_wp2_with fail
      have hgt : ¬ At a.t gb := fun h => by have := htr gb h; rw [hgr] at this; cases this
      have htW : ∀ k, At a.t k → k < w.heap.size := fun k hk => Hbw.out k (by rw [htr k hk]; simp)
      have hU56 : Upd (· = mb) w5 w6 := by
        rw [← H6.out]
        exact (updCell w5 mb lo _).trans (updCell _ mb hi _) (fun _ _ h => h)
      have sbox : ∀ w', Upd Non w6 w' → w'.cell? ⟨w.heap.size, 0, none⟩ = some (.int .i64 (i : Int)) ∧ w'.cell? ⟨w.heap.size, 1, none⟩ = some (.int .i64 (j : Int)) ∧ w'.cell? ⟨w.heap.size, 2, none⟩ = some (.int .i64 y) ∧ w'.cell? ⟨w.heap.size, 3, none⟩ = some (.slice VA vs.length vc) ∧ w'.cell? ⟨w.heap.size, 4, none⟩ = some (.slice MA ms.length mc) := fun w' u =>
        ⟨cell_upd b0 u (fun f => f), cell_upd b1 u (fun f => f), cell_upd b2 u (fun f => f), cell_upd b3 u (fun f => f), cell_upd b4 u (fun f => f)⟩
      have sbox8 : ∀ (w7 w' : World) (o : Obj), Upd Non w6 w7 → Upd (At a.t) (w7.alloc o) w' → w'.cell? ⟨w.heap.size, 0, none⟩ = some (.int .i64 (i : Int)) ∧ w'.cell? ⟨w.heap.size, 1, none⟩ = some (.int .i64 (j : Int)) ∧ w'.cell? ⟨w.heap.size, 2, none⟩ = some (.int .i64 y) ∧ w'.cell? ⟨w.heap.size, 3, none⟩ = some (.slice VA vs.length vc) ∧ w'.cell? ⟨w.heap.size, 4, none⟩ = some (.slice MA ms.length mc) := fun w7 w' o u u2 => by
        obtain ⟨p0, p1, p2, p3, p4⟩ := sbox _ (u.alloc o)
        have hno : ¬ At a.t w.heap.size := fun h => by have := htW _ h; omega
        exact ⟨cell_upd p0 u2 hno, cell_upd p1 u2 hno, cell_upd p2 u2 hno, cell_upd p3 u2 hno, cell_upd p4 u2 hno⟩
      have sboxF : ∀ (w0 : World) (v : Value), (fun w' : World => w'.cell? ⟨w.heap.size, 0, none⟩ = some (.int .i64 (i : Int)) ∧ w'.cell? ⟨w.heap.size, 1, none⟩ = some (.int .i64 (j : Int)) ∧ w'.cell? ⟨w.heap.size, 2, none⟩ = some (.int .i64 y) ∧ w'.cell? ⟨w.heap.size, 3, none⟩ = some (.slice VA vs.length vc) ∧ w'.cell? ⟨w.heap.size, 4, none⟩ = some (.slice MA ms.length mc)) w0 → (fun w' : World => w'.cell? ⟨w.heap.size, 0, none⟩ = some (.int .i64 (i : Int)) ∧ w'.cell? ⟨w.heap.size, 1, none⟩ = some (.int .i64 (j : Int)) ∧ w'.cell? ⟨w.heap.size, 2, none⟩ = some (.int .i64 y) ∧ w'.cell? ⟨w.heap.size, 3, none⟩ = some (.slice VA vs.length vc) ∧ w'.cell? ⟨w.heap.size, 4, none⟩ = some (.slice MA ms.length mc)) (w0.setCell ⟨gb, 6, none⟩ v) := fun w0 v hp => by
        have hno : w.heap.size ≠ gb := by omega
        obtain ⟨p0, p1, p2, p3, p4⟩ := hp
        exact ⟨cell_upd p0 (updCell w0 gb 6 v) hno, cell_upd p1 (updCell w0 gb 6 v) hno, cell_upd p2 (updCell w0 gb 6 v) hno, cell_upd p3 (updCell w0 gb 6 v) hno, cell_upd p4 (updCell w0 gb 6 v) hno⟩
      have q6 := sbox _ (Upd.refl (S := Non)).drew
      refine wp_region_held_drew (S := fun w' => w'.cell? ⟨w.heap.size, 0, none⟩ = some (.int .i64 (i : Int)) ∧ w'.cell? ⟨w.heap.size, 1, none⟩ = some (.int .i64 (j : Int)) ∧ w'.cell? ⟨w.heap.size, 2, none⟩ = some (.int .i64 y) ∧ w'.cell? ⟨w.heap.size, 3, none⟩ = some (.slice VA vs.length vc) ∧ w'.cell? ⟨w.heap.size, 4, none⟩ = some (.slice MA ms.length mc)) (by kernel_rfl) q6 (fun hHeld => ?_)
      refine wpAnyH_take (i := 0) (v := ?_) rfl (by kernel_rfl) (by kernel_rfl) (by kernel_rfl) (fun _ _ _ h => h) (Or.inl ⟨by rfl, ?_⟩) (by assumption) ?_
      rotate_left
      · intro w hSw; (try dsimp only at hSw); go_simp; try with_reducible rfl
      try simp only [put_z]
      refine wpAnyH_take (i := 1) (v := ?_) rfl (by kernel_rfl) (by kernel_rfl) (by kernel_rfl) (fun _ _ _ h => h) (Or.inl ⟨by rfl, ?_⟩) (by assumption) ?_
      rotate_left
      · intro w hSw; (try dsimp only at hSw); go_simp; try with_reducible rfl
      try simp only [put_z]
      refine wpAnyH_take (i := 2) (v := ?_) rfl (by kernel_rfl) (by kernel_rfl) (by kernel_rfl) (fun _ _ _ h => h) (Or.inl ⟨by rfl, ?_⟩) (by assumption) ?_
      rotate_left
      · intro w hSw; (try dsimp only at hSw); go_simp; try with_reducible rfl
      try simp only [put_z]
      refine wpAnyH_take (i := 3) (v := ?_) rfl (by kernel_rfl) (by kernel_rfl) (by kernel_rfl) (fun _ _ _ h => h) (Or.inl ⟨by rfl, ?_⟩) (by assumption) ?_
      rotate_left
      · intro w hSw; (try dsimp only at hSw); go_simp; try with_reducible rfl
      try simp only [put_z]
      refine wpAnyH_take (i := 5) (v := ?_) rfl (by kernel_rfl) (by kernel_rfl) (by kernel_rfl) (fun _ _ _ h => h) (Or.inl ⟨by rfl, ?_⟩) (by assumption) ?_
      rotate_left
      · intro w hSw; (try dsimp only at hSw); go_simp; try with_reducible rfl
      try simp only [put_z]
      refine wpAnyH_ready (rs := [4, 6]) (by kernel_rfl) (by simp) ?_
      refine AllReadyH.cons rfl (fun K hK => ?_) (AllReadyH.cons rfl (fun K hK => ?_) AllReadyH.nil)
      · go_simp
        refine hK.out _ _ ?_ (fun hHeld => ?_)
        · exact q6
        clear hK K
        try simp only [put_z]
        refine wpAnyH_ready (rs := [6]) (by kernel_rfl) (by simp) ?_
        refine AllReadyH.cons rfl (fun K hK => ?_) AllReadyH.nil
        go_simp
        refine C7.out.mono ?_
        rintro e w7 ⟨VB, vd, MB, md, rfl, hV7, hM7, hvd, hmd, hu7'⟩
        have hu7 : Upd Non w6 w7 := Upd.refl.drew.then_non hu7'
        have q7 := sbox w7 hu7
        have c67 := cell_upd c66 hu7 (fun f => f)
        have cA7 := cell_upd c67 (Upd.refl.alloc (.cells #[.int .i64 (i : Int), .int .i64 (j : Int), .int .i64 y, .slice VB vs.length vd, .slice MB ms.length md] 34) (S := Non)) (fun f => f)
        have qA7 := sbox _ (hu7.alloc (.cells #[.int .i64 (i : Int), .int .i64 (j : Int), .int .i64 y, .slice VB vs.length vd, .slice MB ms.length md] 34))
        have ho7 := (hto6.upd hu7 (fun _ _ f => f)).alloc (.cells #[.int .i64 (i : Int), .int .i64 (j : Int), .int .i64 y, .slice VB vs.length vd, .slice MB ms.length md] 34)
        go_wp2_with fail
        refine hK.out _ _ ?_ (fun hHeld => ?_)
        · exact q7
        clear hK K
        try simp only [put_z]
        refine wpAnyH_ready (rs := [7]) (by kernel_rfl) (by simp) ?_
        refine AllReadyH.cons rfl (fun K hK => ?_) AllReadyH.nil
        go_simp
        refine hK.out _ _ ?_ (fun hHeld => ?_)
        · exact qA7
        clear hK K
        try simp only [put_z]
        refine wpAnyH_ready (rs := [8]) (by kernel_rfl) (by simp) ?_
        refine AllReadyH.cons rfl (fun K hK => ?_) AllReadyH.nil
        refine step_app rfl rfl T_steps rfl ho7 rfl (Sl.new _ _ _) rfl (by simp [Value.oneCell']) (by simp only [maxLen]; omega) (by omega) ?_
        intro A8 c8 w8 ho8 hu8 hat8
        have hb8 := (hMMb.upd hu7 (fun f => f)).alloc (.cells #[.int .i64 (i : Int), .int .i64 (j : Int), .int .i64 y, .slice VB vs.length vd, .slice MB ms.length md] 34) |>.upd hu8 hgt
        have c68 := hb8.cell 6
        have f68 := hb8.frozen 6
        have q8 := sbox8 w7 w8 _ hu7 hu8
        refine hK.out _ _ ?_ (fun hHeld => ?_)
        · exact q8
        clear hK K
        try simp only [put_z]
        refine wpAnyH_take (i := 9) (v := ?_) rfl (by kernel_rfl) (by kernel_rfl) (by kernel_rfl) (fun _ _ _ h => h) (Or.inl ⟨by rfl, ?_⟩) (by assumption) ?_
        rotate_left
        · intro w hSw; (try dsimp only at hSw); go_simp; try with_reducible rfl
        try simp only [put_z]
        refine wpAnyH_take (i := 10) (v := ?_) rfl (by kernel_rfl) (by kernel_rfl) (by kernel_rfl) (fun _ _ _ h => h) (Or.inl ⟨by rfl, ?_⟩) (by assumption) ?_
        rotate_left
        · intro w hSw; (try dsimp only at hSw); go_simp; try with_reducible rfl
        try simp only [put_z]
        refine wpAnyH_ready (rs := [11]) (by kernel_rfl) (by simp) ?_
        refine AllReadyH.cons rfl (fun K hK => ?_) AllReadyH.nil
        go_simp
        refine hK.out _ _ ?_ (fun hHeld => ?_)
        · exact sboxF _ _ q8
        clear hK K
        try simp only [put_z]
        refine wpAnyH_done (by kernel_rfl) ?_ _
        go_wp2_with fail
        go_end0
        refine ⟨rfl, ?_⟩
        rw [← HMd.out] at hoR hm7
        exact merge_fin hU hMM.out Hbw.out Hn.out ef em hmSl HMV.out Hmin.out Hmax.out (by omega) hfr hmbr ho hu hu5 hoR HRn.out hm7 hU56 hu7 hV7 hM7 hvd hmd hto htc htr ho8 hu8 hat8
      · go_simp
        refine C7.out.mono ?_
        rintro e w7 ⟨VB, vd, MB, md, rfl, hV7, hM7, hvd, hmd, hu7'⟩
        have hu7 : Upd Non w6 w7 := Upd.refl.drew.then_non hu7'
        have q7 := sbox w7 hu7
        have c67 := cell_upd c66 hu7 (fun f => f)
        have cA7 := cell_upd c67 (Upd.refl.alloc (.cells #[.int .i64 (i : Int), .int .i64 (j : Int), .int .i64 y, .slice VB vs.length vd, .slice MB ms.length md] 34) (S := Non)) (fun f => f)
        have qA7 := sbox _ (hu7.alloc (.cells #[.int .i64 (i : Int), .int .i64 (j : Int), .int .i64 y, .slice VB vs.length vd, .slice MB ms.length md] 34))
        have ho7 := (hto6.upd hu7 (fun _ _ f => f)).alloc (.cells #[.int .i64 (i : Int), .int .i64 (j : Int), .int .i64 y, .slice VB vs.length vd, .slice MB ms.length md] 34)
        go_wp2_with fail
        refine hK.out _ _ ?_ (fun hHeld => ?_)
        · exact q7
        clear hK K
        try simp only [put_z]
        refine wpAnyH_ready (rs := [4, 7]) (by kernel_rfl) (by simp) ?_
        refine AllReadyH.cons rfl (fun K hK => ?_) (AllReadyH.cons rfl (fun K hK => ?_) AllReadyH.nil)
        · go_simp
          refine hK.out _ _ ?_ (fun hHeld => ?_)
          · exact q7
          clear hK K
          try simp only [put_z]
          refine wpAnyH_ready (rs := [7]) (by kernel_rfl) (by simp) ?_
          refine AllReadyH.cons rfl (fun K hK => ?_) AllReadyH.nil
          go_simp
          refine hK.out _ _ ?_ (fun hHeld => ?_)
          · exact qA7
          clear hK K
          try simp only [put_z]
          refine wpAnyH_ready (rs := [8]) (by kernel_rfl) (by simp) ?_
          refine AllReadyH.cons rfl (fun K hK => ?_) AllReadyH.nil
          refine step_app rfl rfl T_steps rfl ho7 rfl (Sl.new _ _ _) rfl (by simp [Value.oneCell']) (by simp only [maxLen]; omega) (by omega) ?_
          intro A8 c8 w8 ho8 hu8 hat8
          have hb8 := (hMMb.upd hu7 (fun f => f)).alloc (.cells #[.int .i64 (i : Int), .int .i64 (j : Int), .int .i64 y, .slice VB vs.length vd, .slice MB ms.length md] 34) |>.upd hu8 hgt
          have c68 := hb8.cell 6
          have f68 := hb8.frozen 6
          have q8 := sbox8 w7 w8 _ hu7 hu8
          refine hK.out _ _ ?_ (fun hHeld => ?_)
          · exact q8
          clear hK K
          try simp only [put_z]
          refine wpAnyH_take (i := 9) (v := ?_) rfl (by kernel_rfl) (by kernel_rfl) (by kernel_rfl) (fun _ _ _ h => h) (Or.inl ⟨by rfl, ?_⟩) (by assumption) ?_
          rotate_left
          · intro w hSw; (try dsimp only at hSw); go_simp; try with_reducible rfl
          try simp only [put_z]
          refine wpAnyH_take (i := 10) (v := ?_) rfl (by kernel_rfl) (by kernel_rfl) (by kernel_rfl) (fun _ _ _ h => h) (Or.inl ⟨by rfl, ?_⟩) (by assumption) ?_
          rotate_left
          · intro w hSw; (try dsimp only at hSw); go_simp; try with_reducible rfl
          try simp only [put_z]
          refine wpAnyH_ready (rs := [11]) (by kernel_rfl) (by simp) ?_
          refine AllReadyH.cons rfl (fun K hK => ?_) AllReadyH.nil
          go_simp
          refine hK.out _ _ ?_ (fun hHeld => ?_)
          · exact sboxF _ _ q8
          clear hK K
          try simp only [put_z]
          refine wpAnyH_done (by kernel_rfl) ?_ _
          go_wp2_with fail
          go_end0
          refine ⟨rfl, ?_⟩
          rw [← HMd.out] at hoR hm7
          exact merge_fin hU hMM.out Hbw.out Hn.out ef em hmSl HMV.out Hmin.out Hmax.out (by omega) hfr hmbr ho hu hu5 hoR HRn.out hm7 hU56 hu7 hV7 hM7 hvd hmd hto htc htr ho8 hu8 hat8
        · go_simp
          refine hK.out _ _ ?_ (fun hHeld => ?_)
          · exact qA7
          clear hK K
          try simp only [put_z]
          refine wpAnyH_ready (rs := [4]) (by kernel_rfl) (by simp) ?_
          refine AllReadyH.cons rfl (fun K hK => ?_) AllReadyH.nil
          go_simp
          refine hK.out _ _ ?_ (fun hHeld => ?_)
          · exact qA7
          clear hK K
          try simp only [put_z]
          refine wpAnyH_ready (rs := [8]) (by kernel_rfl) (by simp) ?_
          refine AllReadyH.cons rfl (fun K hK => ?_) AllReadyH.nil
          refine step_app rfl rfl T_steps rfl ho7 rfl (Sl.new _ _ _) rfl (by simp [Value.oneCell']) (by simp only [maxLen]; omega) (by omega) ?_
          intro A8 c8 w8 ho8 hu8 hat8
          have hb8 := (hMMb.upd hu7 (fun f => f)).alloc (.cells #[.int .i64 (i : Int), .int .i64 (j : Int), .int .i64 y, .slice VB vs.length vd, .slice MB ms.length md] 34) |>.upd hu8 hgt
          have c68 := hb8.cell 6
          have f68 := hb8.frozen 6
          have q8 := sbox8 w7 w8 _ hu7 hu8
          refine hK.out _ _ ?_ (fun hHeld => ?_)
          · exact q8
          clear hK K
          try simp only [put_z]
          refine wpAnyH_take (i := 9) (v := ?_) rfl (by kernel_rfl) (by kernel_rfl) (by kernel_rfl) (fun _ _ _ h => h) (Or.inl ⟨by rfl, ?_⟩) (by assumption) ?_
          rotate_left
          · intro w hSw; (try dsimp only at hSw); go_simp; try with_reducible rfl
          try simp only [put_z]
          refine wpAnyH_take (i := 10) (v := ?_) rfl (by kernel_rfl) (by kernel_rfl) (by kernel_rfl) (fun _ _ _ h => h) (Or.inl ⟨by rfl, ?_⟩) (by assumption) ?_
          rotate_left
          · intro w hSw; (try dsimp only at hSw); go_simp; try with_reducible rfl
          try simp only [put_z]
          refine wpAnyH_ready (rs := [11]) (by kernel_rfl) (by simp) ?_
          refine AllReadyH.cons rfl (fun K hK => ?_) AllReadyH.nil
          go_simp
          refine hK.out _ _ ?_ (fun hHeld => ?_)
          · exact sboxF _ _ q8
          clear hK K
          try simp only [put_z]
          refine wpAnyH_done (by kernel_rfl) ?_ _
          go_wp2_with fail
          go_end0
          refine ⟨rfl, ?_⟩
          rw [← HMd.out] at hoR hm7
          exact merge_fin hU hMM.out Hbw.out Hn.out ef em hmSl HMV.out Hmin.out Hmax.out (by omega) hfr hmbr ho hu hu5 hoR HRn.out hm7 hU56 hu7 hV7 hM7 hvd hmd hto htc htr ho8 hu8 hat8
end Go.Proofs.Ytigambcefdeaoaa
