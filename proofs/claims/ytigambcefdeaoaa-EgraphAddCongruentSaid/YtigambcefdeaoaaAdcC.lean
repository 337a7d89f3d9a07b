/-
  EgraphAddCongruent, called at a list of integers and a list of deeds, returns true and turns nothing old.
-/
import Derived.Test.YtigambcefdeaoaaAdcP
import Derived.Test.YtigambcefdeaoaaRClC
import Derived.Test.YtigambcefdeaoaaDisC
namespace Go.Proofs.Ytigambcefdeaoaa
open Go.RowKit

theorem FG.growFar {P S : Nat → Prop} {w w' : World} {gb : Nat} {G : EG} (h : FG P w gb G) (u : Upd S w w') (d : ∀ k, S k → P k) : FG (fun k => P k ∨ (w.heap.size ≤ k ∧ k < w'.heap.size)) w' gb G := by
  obtain ⟨ρ, a, h1, h2⟩ := h
  refine ⟨ρ, a, h1.far u (fun k hk => (h2 k (d k hk)).2), fun k hk => ?_⟩
  rcases hk with hk | hk
  · exact ⟨Nat.lt_of_lt_of_le (h2 k hk).1 u.size, (h2 k hk).2⟩
  · exact ⟨hk.2, Classical.byContradiction fun hne => by have := h1.bnd k hne; omega⟩

set_option maxRecDepth 100000 in
set_option maxHeartbeats 8000000 in
theorem eAddCg_c (w : World) (F : Nat → Prop) (LA DA : Option Addr) (lc dc : Nat) (l : List Int) (ds : List Dd) (hl : Ints w F LA l) (hd : DeedsV w F DA ds) (hdo : ∀ d ∈ ds, DdOk d) (hli : ∀ x ∈ l, I64 x) (hll : l.length ≤ 1000000000000000) (hdl : ds.length ≤ 1000000000000000) :
    Calls Try.prog 9 #[.slice LA l.length lc, .slice DA ds.length dc] w fun e w' => e = .returned (.bool true) ∧ Upd Non w w' := by
  have C1 := Lib.hid (nodes_c w F LA lc l false hl hli hll)
  have hgw := nodesF_wf false hli
  have hlen := nodesF_len false l
  have hsm := nodesTo_small false l 14
  have hpos := (nodesF_good false l hli).pos
  have hGN := nodesF_goodN false l
  have hok := (nodesF_good false l hli).ok
  obtain ⟨L, HL⟩ := nm (nodesF false l)
  rw [HL.out] at C1 hgw hlen hpos hGN hok
  rw [show nodesTo false l 14 = L from HL.out] at hsm
  have HW := Lib.hid hgw
  have HOK := Lib.hid hok
  have HGN := Lib.hid hGN
  have HSM := Lib.hid hsm
  have HDO := Lib.hid hdo
  have hd := hd.mono (G := (· < w.heap.size)) (fun k hk _ => hk)
  have CP := Lib.hid (fun (z m : Int) (W : World) (h : 0 < m) (h2 : m ≤ 4611686018427387904) => pick_c z m W h h2)
  clear hgw hok hGN hsm hli hdo
  go_enter Try.func9, Try.ntmps9
  go_wp2_with fail
  refine C1.out.mono ?_
  rintro e w1 ⟨A, c, rfl, hno, hA, hu1⟩
  have hV := hno.view (F := fun _ => True) (fun _ _ => trivial) (fun _ _ _ => trivial)
  obtain ⟨_, cs, ho, _⟩ := hno
  have hcap := ho.le
  clear ho
  have C2 := Lib.hid (fNew_c w1 _ A c L hV hcap (by omega) HOK.out (fun nd h => by have := HSM.out nd h; omega) HGN.out.srt HGN.out.dif)
  unfold gp at C2
  go_wp2_with fail
  refine C2.out.mono ?_
  rintro e w2 ⟨gb, rfl, hg1, hu2⟩
  have hs1 := hu1.size
  have hs2 := hu2.size
  have hF0 : FG (· < w.heap.size) w2 gb (newG L) := hg1.mono (fun k hk => by show k < w1.heap.size; have : k < w.heap.size := hk; omega)
  have hU2 := hu1.then_non hu2
  have HC0 := Lib.hid (CInv.new HW.out)
  clear hg1 C1 C2 hV hA
  go_wp2_with fail
  go_loopg [8, 9, 10, 11, 12] 8 (fun g v i _ _ _ wr => ∃ (k q c : Nat) (A8 : Option Addr) (G1 : EG) (ps : List (Int × Int)), Hid (g = 8 - k) ∧ k ≤ 8 ∧ i = .int .i64 k ∧ v = .slice A8 q c ∧ Hid (q = ps.length) ∧ q ≤ k ∧ Own wr 66 2 A8 q c (pcells ps) ∧ Hid (∀ j, At A8 j → w.heap.size ≤ j) ∧ FG (fun k => k < w.heap.size ∨ At A8 k) wr gb G1 ∧ Hid (CInv ps G1) ∧ Hid (G1.L = L) ∧ G1.T.length ≤ k ∧ Upd Non w wr)
  case atStart => exact ⟨0, 0, 0, none, newG L, [], rfl, by omega, rfl, rfl, rfl, by omega, Own.none_, fun j hj => (At.none_ hj).elim, hF0.mono (fun k hk => hk.elim id (fun h => (At.none_ h).elim)), HC0, rfl, by simp [newG], hU2⟩
  case round =>
    obtain ⟨k, q, c8, A8, G1, ps, Hg, hk, rfl, rfl, Hq, hqk, ho, HA, hF, HI, HL1, hT, hu⟩ := hrel
    by_cases hlt : k < ds.length ∧ k < 8
    · obtain ⟨hk1, hk2⟩ := hlt
      obtain ⟨db, dof, rfl, hdw, hdb, _, hda, hdb2, _, _⟩ := (hd.upd hu (fun _ _ _ f => f)).at_ hk1
      have hdw : db < w.heap.size := hdw
      generalize ds[k] = d at *
      have i0 : (0 : Int) ≤ (k : Int) := by omega
      have i1 : (k : Int) < (ds.length : Int) := by omega
      obtain ⟨a5, Ha5⟩ := nm (d.a % (L.length : Int))
      obtain ⟨b5, Hb5⟩ := nm (d.b % (L.length : Int))
      have s1 : wr.drew.cell? ⟨db, dof + k * 9 + 1, none⟩ = some (.int .i64 d.a) := hda
      have s2 : wr.drew.cell? ⟨db, dof + k * 9 + 2, none⟩ = some (.int .i64 d.b) := hdb2
      go_wp2_with fail
      refine wp_region_held_drew (S := fun w' => w'.cell? ⟨db, dof + k * 9 + 1, none⟩ = some (.int .i64 d.a) ∧ w'.cell? ⟨db, dof + k * 9 + 2, none⟩ = some (.int .i64 d.b)) (by kernel_rfl) ⟨s1, s2⟩ (fun hHeld => ?_)
      refine wpAnyH_take (i := 0) (v := ?_) rfl (by kernel_rfl) (by kernel_rfl) (by kernel_rfl) (fun _ _ _ h => h) (Or.inl ⟨by rfl, ?_⟩) (by assumption) ?_
      rotate_left
      · intro w hSw; (try dsimp only at hSw); go_simp; try with_reducible rfl
      try simp only [put_y]
      try simp only [Act.put]
      try simp only [put_z]
      refine wpAnyH_take (i := 1) (v := ?_) rfl (by kernel_rfl) (by kernel_rfl) (by kernel_rfl) (fun _ _ _ h => h) (Or.inl ⟨by rfl, ?_⟩) (by assumption) ?_
      rotate_left
      · intro w hSw; (try dsimp only at hSw); go_simp; try with_reducible rfl
      try simp only [put_y]
      try simp only [Act.put]
      try simp only [put_z]
      refine wpAnyH_take (i := 2) (v := ?_) rfl (by kernel_rfl) (by kernel_rfl) (by kernel_rfl) (fun _ _ _ h => h) (Or.inl ⟨by rfl, ?_⟩) (by assumption) ?_
      rotate_left
      · intro w hSw; (try dsimp only at hSw); go_simp; try with_reducible rfl
      try simp only [put_y]
      try simp only [Act.put]
      try simp only [put_z]
      refine wpAnyH_take (i := 3) (v := ?_) rfl (by kernel_rfl) (by kernel_rfl) (by kernel_rfl) (fun _ _ _ h => h) (Or.inl ⟨by rfl, ?_⟩) (by assumption) ?_
      rotate_left
      · intro w hSw; (try dsimp only at hSw); go_simp; try with_reducible rfl
      try simp only [put_y]
      try simp only [Act.put]
      try simp only [put_z]
      refine wpAnyH_take (i := 4) (v := ?_) rfl (by kernel_rfl) (by kernel_rfl) (by kernel_rfl) (fun _ _ _ h => h) (Or.inl ⟨by rfl, ?_⟩) (by assumption) ?_
      rotate_left
      · intro w hSw; (try dsimp only at hSw); go_simp; try with_reducible rfl
      try simp only [put_y]
      try simp only [Act.put]
      try simp only [put_z]
      refine wpAnyH_take (i := 5) (v := ?_) rfl (by kernel_rfl) (by kernel_rfl) (by kernel_rfl) (fun _ _ _ h => h) (Or.inl ⟨by rfl, ?_⟩) (by assumption) ?_
      rotate_left
      · intro w hSw; (try dsimp only at hSw); go_simp; try with_reducible rfl
      try simp only [put_y]
      try simp only [Act.put]
      try simp only [put_z]
      refine wpAnyH_take (i := 6) (v := ?_) rfl (by kernel_rfl) (by kernel_rfl) (by kernel_rfl) (fun _ _ _ h => h) (Or.inl ⟨by rfl, ?_⟩) (by assumption) ?_
      rotate_left
      · intro w hSw; (try dsimp only at hSw); go_simp; try with_reducible rfl
      try simp only [put_y]
      try simp only [Act.put]
      try simp only [put_z]
      refine wpAnyH_takeC (i := 7) (v := ?v1) rfl (by kernel_rfl) (by kernel_rfl) (by kernel_rfl) (fun _ _ _ h => h) ⟨by rfl, ?f1, ?a1, ?r1, ?c1⟩ (by assumption) ?m1
      case r1 => intro w; go_simp; constructor <;> with_reducible rfl
      case c1 => intro W hSw; refine (CP.out d.a (L.length : Int) W (by omega) (by omega)).mono ?_; rintro e w' ⟨rfl, rfl⟩; constructor <;> with_reducible rfl
      try simp only [put_y]
      try simp only [Act.put]
      try simp only [put_z]
      refine wpAnyH_take (i := 8) (v := ?_) rfl (by kernel_rfl) (by kernel_rfl) (by kernel_rfl) (fun _ _ _ h => h) (Or.inl ⟨by rfl, ?_⟩) (by assumption) ?_
      rotate_left
      · intro w hSw; (try dsimp only at hSw); go_simp; try with_reducible rfl
      try simp only [put_y]
      try simp only [Act.put]
      try simp only [put_z]
      refine wpAnyH_take (i := 9) (v := ?_) rfl (by kernel_rfl) (by kernel_rfl) (by kernel_rfl) (fun _ _ _ h => h) (Or.inl ⟨by rfl, ?_⟩) (by assumption) ?_
      rotate_left
      · intro w hSw; (try dsimp only at hSw); go_simp; try with_reducible rfl
      try simp only [put_y]
      try simp only [Act.put]
      try simp only [put_z]
      refine wpAnyH_take (i := 10) (v := ?_) rfl (by kernel_rfl) (by kernel_rfl) (by kernel_rfl) (fun _ _ _ h => h) (Or.inl ⟨by rfl, ?_⟩) (by assumption) ?_
      rotate_left
      · intro w hSw; (try dsimp only at hSw); go_simp; try with_reducible rfl
      try simp only [put_y]
      try simp only [Act.put]
      try simp only [put_z]
      refine wpAnyH_take (i := 11) (v := ?_) rfl (by kernel_rfl) (by kernel_rfl) (by kernel_rfl) (fun _ _ _ h => h) (Or.inl ⟨by rfl, ?_⟩) (by assumption) ?_
      rotate_left
      · intro w hSw; (try dsimp only at hSw); go_simp; try with_reducible rfl
      try simp only [put_y]
      try simp only [Act.put]
      try simp only [put_z]
      refine wpAnyH_take (i := 12) (v := ?_) rfl (by kernel_rfl) (by kernel_rfl) (by kernel_rfl) (fun _ _ _ h => h) (Or.inl ⟨by rfl, ?_⟩) (by assumption) ?_
      rotate_left
      · intro w hSw; (try dsimp only at hSw); go_simp; try with_reducible rfl
      try simp only [put_y]
      try simp only [Act.put]
      try simp only [put_z]
      refine wpAnyH_take (i := 13) (v := ?_) rfl (by kernel_rfl) (by kernel_rfl) (by kernel_rfl) (fun _ _ _ h => h) (Or.inl ⟨by rfl, ?_⟩) (by assumption) ?_
      rotate_left
      · intro w hSw; (try dsimp only at hSw); go_simp; try with_reducible rfl
      try simp only [put_y]
      try simp only [Act.put]
      try simp only [put_z]
      refine wpAnyH_take (i := 14) (v := ?_) rfl (by kernel_rfl) (by kernel_rfl) (by kernel_rfl) (fun _ _ _ h => h) (Or.inl ⟨by rfl, ?_⟩) (by assumption) ?_
      rotate_left
      · intro w hSw; (try dsimp only at hSw); go_simp; try with_reducible rfl
      try simp only [put_y]
      try simp only [Act.put]
      try simp only [put_z]
      refine wpAnyH_takeC (i := 15) (v := ?v2) rfl (by kernel_rfl) (by kernel_rfl) (by kernel_rfl) (fun _ _ _ h => h) ⟨by rfl, ?f2, ?a2, ?r2, ?c2⟩ (by assumption) ?m2
      case r2 => intro w; go_simp; constructor <;> with_reducible rfl
      case c2 => intro W hSw; refine (CP.out d.b (L.length : Int) W (by omega) (by omega)).mono ?_; rintro e w' ⟨rfl, rfl⟩; constructor <;> with_reducible rfl
      try simp only [put_y]
      try simp only [Act.put]
      try simp only [put_z]
      rw [Ha5.out, Hb5.out]
      refine wpAnyH_take (i := 16) (v := ?_) rfl (by kernel_rfl) (by kernel_rfl) (by kernel_rfl) (fun _ _ _ h => h) (Or.inl ⟨by rfl, ?_⟩) (by assumption) ?_
      rotate_left
      · intro w hSw; (try dsimp only at hSw); go_simp; try with_reducible rfl
      try simp only [put_y]
      try simp only [Act.put]
      try simp only [put_z]
      refine wpAnyH_ready (rs := [17]) (by kernel_rfl) (by simp) ?_
      refine AllReadyH.cons rfl (fun K hK => ?_) AllReadyH.nil
      go_simp
      have r1 : wr.cell? ⟨db, dof + k * 9 + 1, none⟩ = some (.int .i64 d.a) := hda
      have r2 : wr.cell? ⟨db, dof + k * 9 + 2, none⟩ = some (.int .i64 d.b) := hdb2
      have SA : ∀ o : Obj, (wr.alloc o).drew.cell? ⟨db, dof + k * 9 + 1, none⟩ = some (.int .i64 d.a) ∧ (wr.alloc o).drew.cell? ⟨db, dof + k * 9 + 2, none⟩ = some (.int .i64 d.b) := fun o => ⟨cell_upd r1 (Upd.refl.alloc o (S := Non)).drew (fun f => f), cell_upd r2 (Upd.refl.alloc o (S := Non)).drew (fun f => f)⟩
      refine hK.out _ _ ?_ (fun hHeld => ?_)
      · exact SA _
      clear hK K
      try simp only [put_y]
      try simp only [Act.put]
      try simp only [put_z]
      refine wpAnyH_ready (rs := [18]) (by kernel_rfl) (by simp) ?_
      refine AllReadyH.cons rfl (fun K hK => ?_) AllReadyH.nil
      go_simp
      refine hK.out _ _ ?_ (fun hHeld => ?_)
      · exact SA _
      clear hK K
      try simp only [put_y]
      try simp only [Act.put]
      try simp only [put_z]
      refine wpAnyH_done (by kernel_rfl) ?_ _
      obtain ⟨W, HWq⟩ := nm ((wr.alloc (.cells #[.int .i64 a5, .int .i64 b5, .int .i64 3, .slice none 0 0, .slice none 0 0] 34)).drew)
      have uA : Upd Non wr W := by rw [← HWq.out]; exact (Upd.refl.alloc _).drew
      have hszW : W.heap.size = wr.heap.size + 1 := by rw [← HWq.out]; simp
      have bs : Blk W wr.heap.size 34 #[.int .i64 a5, .int .i64 b5, .int .i64 3, .slice none 0 0, .slice none 0 0] := by rw [← HWq.out]; exact (Blk.new wr _ _).drew
      have hoW := ho.upd uA (fun _ _ f => f)
      have hFW := hF.grow uA
      have hUW := hu.then_non uA
      rw [HWq.out]
      obtain ⟨P', HP'⟩ := nm (fun j => (j < w.heap.size ∨ At A8 j) ∨ wr.heap.size ≤ j ∧ j < W.heap.size)
      rw [HP'.out] at hFW
      have HPo : Hid (∀ j, (j < w.heap.size ∨ At A8 j ∨ j = wr.heap.size) → P' j) := fun j hj => by
        rw [← HP'.out]
        rcases hj with h | h | h
        · exact .inl (.inl h)
        · exact .inl (.inr h)
        · subst h; exact .inr ⟨Nat.le_refl _, by omega⟩
      have CU := Lib.hid (fUnion_c W P' gb G1 hFW HI.out.inv.wf (by omega) ⟨a5, b5, 3, [], []⟩ none none 0 0 .nil .nil (by simp) (by simp))
      unfold gp stpV at CU
      dsimp only [List.length_nil] at CU
      have d0 := bs.cell 0
      have d1 := bs.cell 1
      have d2 := bs.cell 2
      have d3 := bs.cell 3
      have d4 := bs.cell 4
      clear SA HWq HP' r1 r2 hda hdb2 s1 s2 hszW
      cases hun : uniNew G1 ⟨a5, b5, 3, [], []⟩ with
      | false =>
        have hGe := uniG_old hun
        rw [hGe] at CU
        have HRt : Hid (∃ z, uniRet G1 ⟨a5, b5, 3, [], []⟩ = .tuple #[.bool false, .int .i64 z]) := ⟨_, by unfold uniRet; rw [hun]⟩
        obtain ⟨z, hz⟩ := HRt.out
        rw [hz] at CU
        clear hun hGe hz HRt
        go_wp2_with fail
        refine CU.out.mono ?_
        rintro e w4 ⟨rfl, hF4, hu4⟩
        have ho4 := hoW.upd hu4 (fun j hj h => h (HPo.out j (.inr (.inl hj))))
        have hU4 := hUW.out_trans hu4 (fun j hj => HPo.out j (.inl hj))
        have hF4' : FG (fun j => j < w.heap.size ∨ At A8 j) w4 gb G1 := hF4.mono (fun j hj => HPo.out j (hj.elim .inl (fun h => .inr (.inl h))))
        go_wp2_with fail
        go_roundg (8 - (k + 1))
        case measure => rw [Hg.out]; omega
        case rel => exact ⟨k + 1, q, c8, A8, G1, ps, rfl, by omega, by go_num, rfl, Hq, by omega, ho4, HA, hF4', HI, HL1, by omega, hU4⟩
      | true =>
        have HI2 := Lib.hid (HI.out.uniNew hun)
        have hT2 := uniG_T G1 ⟨a5, b5, 3, [], []⟩
        have HL2 : Hid ((uniG G1 ⟨a5, b5, 3, [], []⟩).L = L) := (uniG_L _ _).trans HL1.out
        have HRt : Hid (∃ z, uniRet G1 ⟨a5, b5, 3, [], []⟩ = .tuple #[.bool true, .int .i64 z]) := ⟨_, by unfold uniRet; rw [hun]⟩
        obtain ⟨z, hz⟩ := HRt.out
        rw [hz] at CU
        clear hun hz HRt
        go_wp2_with fail
        refine CU.out.mono ?_
        rintro e w4 ⟨rfl, hF4, hu4⟩
        have ho4 := hoW.upd hu4 (fun j hj h => h (HPo.out j (.inr (.inl hj))))
        have hU4 := hUW.out_trans hu4 (fun j hj => HPo.out j (.inl hj))
        have bs4 := bs.upd hu4 (fun h => h (HPo.out _ (.inr (.inr rfl))))
        have g0 := bs4.cell 0
        have g1 := bs4.cell 1
        have hw4 := hU4.size
        go_wp2_with (at_builtin; refine wpList_app rfl rfl T_pairs rfl (ho4.alloc _) rfl (Sl.new _ _ _) rfl (by simp [Value.oneCell']) (by simp only [maxLen]; omega) (by omega) ?_; intro A3 c3 w5 ho5 hu5 hat5)
        have hFa := hF4.growFar (Upd.refl.alloc (.cells #[.int .i64 a5, .int .i64 b5] 66) (S := Non)) (fun _ f => f.elim)
        have hF5 := hFa.growFar hu5 (fun j hj => .inl (HPo.out j (.inr (.inl hj))))
        have hF5' : FG (fun j => j < w.heap.size ∨ At A3 j) w5 gb (uniG G1 ⟨a5, b5, 3, [], []⟩) := hF5.mono (fun j hj => by
          rcases hj with h | h
          · exact .inl (.inl (HPo.out j (.inl h)))
          · rcases hat5 j h with h2 | h2
            · exact .inl (.inl (HPo.out j (.inr (.inl h2))))
            · have := ho5.lt h; subst h2; exact .inr ⟨Nat.le_refl _, this⟩)
        go_roundg (8 - (k + 1))
        case measure => rw [Hg.out]; omega
        case rel =>
          refine ⟨k + 1, q + 1, c3, A3, _, ps ++ [(a5, b5)], rfl, by omega, by go_num, rfl, by show _ = _; rw [Hq.out]; simp, by omega, by rw [pcells_snoc]; exact ho5, fun j hj => ?_, hF5', HI2, HL2, by omega, (hU4.alloc _).trans hu5 (fun i hi h => by have := HA.out i h; omega)⟩
          rcases hat5 j hj with h | h
          · exact HA.out j h
          · simp at h; omega
    · go_upto_region 7 with fail
      go_cut [37] (fun s wx => s = .bool false ∧ wr = wx)
      case first =>
        by_cases h1 : k < ds.length
        · obtain rfl : k = 8 := by omega
          go_wp2_with fail
          go_meet
          exact ⟨rfl, rfl⟩
        · go_wp2_with fail
          go_meet
          exact ⟨rfl, rfl⟩
      case rest =>
        obtain ⟨rfl, rfl⟩ := hcut
        have C3 := Lib.hid (fRebuild_c wr _ gb G1 hF HI.out.inv.wf (by omega))
        unfold gp at C3
        clear hlt Hg
        obtain ⟨w3, e3⟩ : ∃ w3 : World, w3 = wr := ⟨_, rfl⟩
        subst e3
        go_wp2_with fail
        refine C3.out.mono ?_
        rintro e w4 ⟨nr, G2, hr, hnr, rfl, hF4, hu4⟩
        obtain ⟨hI2, hc2⟩ := CInv.rebuilt hr HI.out
        have HI2 := Lib.hid hI2
        have HCl2 := Lib.hid hc2
        have hL2 : G2.L.length = L.length := by rw [hr.L_, HL1.out]
        have hT2 := hr.T_
        have ho4 := ho.upd hu4 (fun j hj h => h (.inr hj))
        have hU4 := hu.out_trans hu4 (fun i hi => .inl hi)
        have ht2 : G2.T.length ≤ 2100 := by omega
        have hl2 : L.length ≤ G2.L.length ∧ G2.L.length ≤ 17 := by omega
        clear hr hI2 hc2 C3 hL2 hT2
        go_wp2_with fail
        go_loopg [13] 8 (fun g i wx => ∃ (k : Nat) (G3 : EG), Hid (g = 8 - k) ∧ k ≤ 8 ∧ i = .int .i64 k ∧ FG (fun j => j < w.heap.size ∨ At A8 j) wx gb G3 ∧ Hid (CInv ps G3) ∧ Hid (Closed G3) ∧ L.length ≤ G3.L.length ∧ G3.L.length ≤ 17 + k ∧ G3.T.length ≤ 2100 + k ∧ Own wx 66 2 A8 q c8 (pcells ps) ∧ Upd Non w wx)
        case atStart => exact ⟨0, G2, rfl, by omega, rfl, hF4, HI2, HCl2, hl2.1, by omega, by omega, ho4, hU4⟩
        case round =>
          obtain ⟨k, G3, Hg, hk, rfl, hF, HI3, HCl3, hl3, hl3', hT3, ho, hu⟩ := hrel
          by_cases hlt : k < ds.length ∧ k < 8
          · obtain ⟨hk1, hk2⟩ := hlt
            obtain ⟨db, dof, rfl, hdw, hdb, c0, c1, c2, c3, c4, c5, c6, VA, vc, MA, mc, c7, c8', _⟩ := (hd.upd hu (fun _ _ _ f => f)).at_ hk1
            have hdk := HDO.out _ (List.getElem_mem hk1)
            have hdw : db < w.heap.size := hdw
            generalize ds[k] = d at *
            have i0 : (0 : Int) ≤ (k : Int) := by omega
            have i1 : (k : Int) < (ds.length : Int) := by omega
            have HD := Lib.hid hdk
            obtain ⟨p, Hp⟩ := nm (dof + k * 9)
            have SS : ∀ (T : Nat → Prop) (w' : World), Upd T wr w' → ¬ T db → w'.cell? ⟨db, dof + k * 9, none⟩ = some (.int .i64 d.what) ∧ w'.cell? ⟨db, dof + k * 9 + 1, none⟩ = some (.int .i64 d.a) ∧ w'.cell? ⟨db, dof + k * 9 + 2, none⟩ = some (.int .i64 d.b) ∧ w'.cell? ⟨db, dof + k * 9 + 3, none⟩ = some (.int .i64 d.op) ∧
                w'.cell? ⟨db, dof + k * 9 + 4, none⟩ = some (.int .i64 d.s.l) ∧ w'.cell? ⟨db, dof + k * 9 + 4 + 1, none⟩ = some (.int .i64 d.s.r) ∧ w'.cell? ⟨db, dof + k * 9 + 4 + 2, none⟩ = some (.int .i64 d.s.why) ∧ w'.cell? ⟨db, dof + k * 9 + 4 + 3, none⟩ = some (.slice VA d.s.vars.length vc) ∧ w'.cell? ⟨db, dof + k * 9 + 4 + 4, none⟩ = some (.slice MA d.s.imms.length mc) := fun T w' u h =>
              ⟨cell_upd c0 u h, cell_upd c1 u h, cell_upd c2 u h, cell_upd c3 u h, cell_upd c4 u h, cell_upd c5 u h, cell_upd c6 u h, cell_upd c7 u h, cell_upd c8' u h⟩
            have HSS := Lib.hid SS
            have C5 := Lib.hid (fNodes_c wr.drew _ gb G3 (hF.non Upd.refl.drew) HI3.out.inv.wf)
            unfold gp at C5
            clear hdk c0 c1 c2 c3 c4 c5 c6 c7 c8' SS Hp
            go_wp2_with fail
            refine wp_region_held_drew (S := fun w' => w'.cell? ⟨db, dof + k * 9, none⟩ = some (.int .i64 d.what) ∧ w'.cell? ⟨db, dof + k * 9 + 1, none⟩ = some (.int .i64 d.a) ∧ w'.cell? ⟨db, dof + k * 9 + 2, none⟩ = some (.int .i64 d.b) ∧ w'.cell? ⟨db, dof + k * 9 + 3, none⟩ = some (.int .i64 d.op) ∧
                w'.cell? ⟨db, dof + k * 9 + 4, none⟩ = some (.int .i64 d.s.l) ∧ w'.cell? ⟨db, dof + k * 9 + 4 + 1, none⟩ = some (.int .i64 d.s.r) ∧ w'.cell? ⟨db, dof + k * 9 + 4 + 2, none⟩ = some (.int .i64 d.s.why) ∧ w'.cell? ⟨db, dof + k * 9 + 4 + 3, none⟩ = some (.slice VA d.s.vars.length vc) ∧ w'.cell? ⟨db, dof + k * 9 + 4 + 4, none⟩ = some (.slice MA d.s.imms.length mc)) (by kernel_rfl) (HSS.out Non _ Upd.refl.drew (fun f => f)) (fun hHeld => ?_)
            refine wpAnyH_take (i := 0) (v := ?_) rfl (by kernel_rfl) (by kernel_rfl) (by kernel_rfl) (fun _ _ _ h => h) (Or.inl ⟨by rfl, ?_⟩) (by assumption) ?_
            rotate_left
            · intro w hSw; (try dsimp only at hSw); go_simp; try with_reducible rfl
            try simp only [put_y]
            try simp only [Act.put]
            try simp only [put_z]
            refine wpAnyH_take (i := 1) (v := ?_) rfl (by kernel_rfl) (by kernel_rfl) (by kernel_rfl) (fun _ _ _ h => h) (Or.inl ⟨by rfl, ?_⟩) (by assumption) ?_
            rotate_left
            · intro w hSw; (try dsimp only at hSw); go_simp; try with_reducible rfl
            try simp only [put_y]
            try simp only [Act.put]
            try simp only [put_z]
            refine wpAnyH_take (i := 2) (v := ?_) rfl (by kernel_rfl) (by kernel_rfl) (by kernel_rfl) (fun _ _ _ h => h) (Or.inl ⟨by rfl, ?_⟩) (by assumption) ?_
            rotate_left
            · intro w hSw; (try dsimp only at hSw); go_simp; try with_reducible rfl
            try simp only [put_y]
            try simp only [Act.put]
            try simp only [put_z]
            refine wpAnyH_take (i := 3) (v := ?_) rfl (by kernel_rfl) (by kernel_rfl) (by kernel_rfl) (fun _ _ _ h => h) (Or.inl ⟨by rfl, ?_⟩) (by assumption) ?_
            rotate_left
            · intro w hSw; (try dsimp only at hSw); go_simp; try with_reducible rfl
            try simp only [put_y]
            try simp only [Act.put]
            try simp only [put_z]
            refine wpAnyH_take (i := 4) (v := ?_) rfl (by kernel_rfl) (by kernel_rfl) (by kernel_rfl) (fun _ _ _ h => h) (Or.inl ⟨by rfl, ?_⟩) (by assumption) ?_
            rotate_left
            · intro w hSw; (try dsimp only at hSw); go_simp; try with_reducible rfl
            try simp only [put_y]
            try simp only [Act.put]
            try simp only [put_z]
            refine wpAnyH_take (i := 5) (v := ?_) rfl (by kernel_rfl) (by kernel_rfl) (by kernel_rfl) (fun _ _ _ h => h) (Or.inl ⟨by rfl, ?_⟩) (by assumption) ?_
            rotate_left
            · intro w hSw; (try dsimp only at hSw); go_simp; try with_reducible rfl
            try simp only [put_y]
            try simp only [Act.put]
            try simp only [put_z]
            refine wpAnyH_ready (rs := [6]) (by kernel_rfl) (by simp) ?_
            refine AllReadyH.cons rfl (fun K hK => ?_) AllReadyH.nil
            go_simp
            refine C5.out.mono ?_
            rintro e w5 ⟨A5, c5, rfl, _, _, hu5'⟩
            have hu5 : Upd Non wr w5 := Upd.refl.drew.then_non hu5'
            have hF5 := hF.non hu5
            have C6 := Lib.hid (deedNode_c w5 d VA MA vc mc G3.L.length (by omega) HD.out)
            unfold deedVal at C6
            go_wp2_with fail
            refine hK.out _ _ ?_ (fun hHeld => ?_)
            · exact HSS.out Non _ hu5 (fun f => f)
            clear hK K
            try simp only [put_y]
            try simp only [Act.put]
            try simp only [put_z]
            refine wpAnyH_take (i := 7) (v := ?_) rfl (by kernel_rfl) (by kernel_rfl) (by kernel_rfl) (fun _ _ _ h => h) (Or.inl ⟨by rfl, ?_⟩) (by assumption) ?_
            rotate_left
            · intro w hSw; (try dsimp only at hSw); go_simp; try with_reducible rfl
            try simp only [put_y]
            try simp only [Act.put]
            try simp only [put_z]
            refine wpAnyH_ready (rs := [8]) (by kernel_rfl) (by simp) ?_
            refine AllReadyH.cons rfl (fun K hK => ?_) AllReadyH.nil
            go_simp
            refine C6.out.mono ?_
            rintro e w6 ⟨KB, kd, rfl, hoK, hKn, hu6⟩
            have hok6 := dNode_ok d (G3.L.length : Int)
            have hkl6 : (dNode d (G3.L.length : Int)).kids.length ≤ 100000000000 := by have := dArity d; rw [dNode_kids, dKids_len]; omega
            have C7 := Lib.hid (fAddNew_c w5 w6 _ gb G3 hF5 hu6 HI3.out.inv.wf (by omega) (dNode d (G3.L.length : Int)) KB kd hoK hKn hok6 hkl6)
            have HI7 := Lib.hid (HI3.out.addI HCl3.out hok6).1
            have HCl7 := Lib.hid (HI3.out.addI HCl3.out hok6).2
            have hT7 := addG_T G3 (dNode d (G3.L.length : Int))
            obtain ⟨l6, l7⟩ := addG_L G3 (dNode d (G3.L.length : Int))
            unfold gp addRet at C7
            generalize dNode d (G3.L.length : Int) = nd at *
            clear hok6 hkl6 C5 C6
            go_wp2_with fail
            refine hK.out _ _ ?_ (fun hHeld => ?_)
            · exact HSS.out Non _ (hu5.then_non hu6) (fun f => f)
            clear hK K
            try simp only [put_y]
            try simp only [Act.put]
            try simp only [put_z]
            refine wpAnyH_ready (rs := [9]) (by kernel_rfl) (by simp) ?_
            refine AllReadyH.cons rfl (fun K hK => ?_) AllReadyH.nil
            go_simp
            refine C7.out.mono ?_
            rintro e w7 ⟨rfl, hF7, hu7⟩
            have hU7 := ((hu.then_non hu5).then_non hu6).out_trans hu7 (fun i hi => .inl hi)
            have ho7 := ((ho.upd hu5 (fun _ _ f => f)).upd hu6 (fun _ _ f => f)).upd hu7 (fun j hj h => h (.inr hj))
            have hu57 : Upd (Out (fun j => j < w.heap.size ∨ At A8 j)) wr w7 := (Upd.non_out (hu5.then_non hu6)).out_out hu7
            go_wp2_with fail
            refine hK.out _ _ ?_ (fun hHeld => ?_)
            · exact HSS.out _ _ hu57 (fun h => h (.inl hdw))
            clear hK K
            try simp only [put_y]
            try simp only [Act.put]
            try simp only [put_z]
            refine wpAnyH_done (by kernel_rfl) ?_ _
            go_wp2_with fail
            go_roundg (8 - (k + 1))
            case measure => rw [Hg.out]; omega
            case rel => exact ⟨k + 1, _, rfl, by omega, by go_num, hF7, HI7, HCl7, by omega, by omega, by omega, ho7, hU7⟩
          · go_upto_region 15 with fail
            go_cut [81] (fun s wx => s = .bool false ∧ wr = wx)
            case first =>
              by_cases h1 : k < ds.length
              · obtain rfl : k = 8 := by omega
                go_wp2_with fail
                go_meet
                exact ⟨rfl, rfl⟩
              · go_wp2_with fail
                go_meet
                exact ⟨rfl, rfl⟩
            case rest =>
              obtain ⟨rfl, rfl⟩ := hcut
              have C5 := Lib.hid (fNodes_c wr _ gb G3 hF HI3.out.inv.wf)
              unfold gp at C5
              have hPV := (Own.pairs ho).mono (G := fun _ => True) (fun _ _ _ => trivial)
              have HCL := Lib.hid (HI3.out.isCl HCl3.out)
              have hq8 : ps.length = q := Hq.out.symm
              have HQ8 := Lib.hid hq8
              have hg3 : G3.L.length ≤ 25 := by omega
              clear hlt hq8
              obtain ⟨w5, e5⟩ : ∃ w5 : World, w5 = wr := ⟨_, rfl⟩
              subst e5
              go_wp2_with fail
              refine C5.out.mono ?_
              rintro e w6 ⟨A6, c6, rfl, hno6, hA6, hu6⟩
              have hX6 := hno6.view (F := fun _ => True) (fun _ _ => trivial) (fun _ _ _ => trivial)
              have hF6 := hF.non hu6
              have hU6 := hu.then_non hu6
              have C7 := Lib.hid (classes_c w6 (fun _ => True) A6 A8 c6 c8 G3.L ps hX6 (hPV.upd hu6 (fun _ _ _ f => f)) (by omega) (by have := HQ8.out; omega) HI3.out.inv.wf.wf.ok)
              rw [HQ8.out] at C7
              clear C5 hno6 hPV
              go_wp2_with fail
              refine C7.out.mono ?_
              rintro e w8 ⟨cf, A7, c7, hcl, rfl, _, hi8, hu8⟩
              have hsame : clL G3.L cf = clL G3.L G3.c := hcl.same HCL.out
              rw [show (List.range G3.L.length).map (fun i => (cf i : Int)) = clL G3.L G3.c from hsame] at hi8
              have hF8 := hF6.non hu8
              have hU8 := hU6.then_non hu8
              have t1 : ((G3.L.length : Int) != (G3.L.length : Int)) = false := by simp
              have t3 : ¬ (G3.L.length : Int) < (L.length : Int) := by omega
              obtain ⟨fb, fo, rfl, _, hfb, hfc⟩ := clL_at hi8 (by omega)
              clear C7 hcl hsame hi8
              go_wp2_with fail
              go_loopg [16, 113] G3.L.length (fun g _ i wx => ∃ q n : Nat, Hid (g = G3.L.length - q) ∧ q ≤ G3.L.length ∧ i = .int .i64 q ∧ wx = w8.drewN n)
              case atStart => exact ⟨0, 0, rfl, by omega, rfl, rfl⟩
              case round =>
                obtain ⟨q, n, Hg, hq, rfl, rfl⟩ := hrel
                by_cases hqt : q < G3.L.length
                · have hfq := hfc q hqt
                  have HF : Hid (findF G3 (q : Int) = (G3.c q : Int)) := by show _ = _; unfold findF; rw [if_pos ⟨by omega, by omega⟩]; simp
                  have CX := Lib.hid (fun (w2 : World) (u : Upd Non w8 w2) => fFind_c w2 _ gb G3 (hF8.non u) (q : Int))
                  unfold gp at CX
                  have i0 : (0 : Int) ≤ (q : Int) := by omega
                  have i1 : (q : Int) < (G3.L.length : Int) := by omega
                  have s1 : (w8.drewN n).drew.cell? ⟨fb, fo + q, none⟩ = some (.int .i64 (G3.c q : Int)) := hfq
                  have s5 : Upd Non w8 (w8.drewN n).drew := (Upd.refl.drewN n).drew
                  obtain ⟨z, Hz⟩ := nm (G3.c q)
                  rw [Hz.out] at HF s1
                  have t2 : ((z : Int) != (z : Int)) = false := by simp
                  clear hfc
                  go_wp2_with fail
                  refine wp_region_held_drew (S := fun w' => Upd Non w8 w' ∧ w'.cell? ⟨fb, fo + q, none⟩ = some (.int .i64 (z : Int))) (by kernel_rfl) ⟨s5, s1⟩ (fun hHeld => ?_)
                  refine wpAnyH_take (i := 0) (v := ?_) rfl (by kernel_rfl) (by kernel_rfl) (by kernel_rfl) (fun _ _ _ h => h) (Or.inl ⟨by rfl, ?_⟩) (by assumption) ?_
                  rotate_left
                  · intro w hSw; (try dsimp only at hSw); go_simp; try with_reducible rfl
                  try simp only [put_y]
                  try simp only [Act.put]
                  try simp only [put_z]
                  refine wpAnyH_take (i := 1) (v := ?_) rfl (by kernel_rfl) (by kernel_rfl) (by kernel_rfl) (fun _ _ _ h => h) (Or.inl ⟨by rfl, ?_⟩) (by assumption) ?_
                  rotate_left
                  · intro w hSw; (try dsimp only at hSw); go_simp; try with_reducible rfl
                  try simp only [put_y]
                  try simp only [Act.put]
                  try simp only [put_z]
                  refine wpAnyH_takeC (i := 2) (v := ?v3) rfl (by kernel_rfl) (by kernel_rfl) (by kernel_rfl) (fun _ _ _ h => h) ⟨by rfl, ?f3, ?a3, ?r3, ?c3⟩ (by assumption) ?m3
                  case r3 => intro w; go_simp; constructor <;> with_reducible rfl
                  case c3 => intro W hSw; refine (CX.out W hSw.1).mono ?_; rintro e w' ⟨rfl, rfl⟩; constructor <;> with_reducible rfl
                  try simp only [put_y]
                  try simp only [Act.put]
                  try simp only [put_z]
                  refine wpAnyH_take (i := 3) (v := ?_) rfl (by kernel_rfl) (by kernel_rfl) (by kernel_rfl) (fun _ _ _ h => h) (Or.inl ⟨by rfl, ?_⟩) (by assumption) ?_
                  rotate_left
                  · intro w hSw; (try dsimp only at hSw); go_simp; try with_reducible rfl
                  try simp only [put_y]
                  try simp only [Act.put]
                  try simp only [put_z]
                  refine wpAnyH_take (i := 4) (v := ?_) rfl (by kernel_rfl) (by kernel_rfl) (by kernel_rfl) (fun _ _ _ h => h) (Or.inl ⟨by rfl, ?_⟩) (by assumption) ?_
                  rotate_left
                  · intro w hSw; (try dsimp only at hSw); go_simp; try with_reducible rfl
                  try simp only [put_y]
                  try simp only [Act.put]
                  try simp only [put_z]
                  refine wpAnyH_take (i := 5) (v := ?_) rfl (by kernel_rfl) (by kernel_rfl) (by kernel_rfl) (fun _ _ _ h => h) (Or.inl ⟨by rfl, ?_⟩) (by assumption) ?_
                  rotate_left
                  · intro w hSw; (try dsimp only at hSw); go_simp; try with_reducible rfl
                  try simp only [put_y]
                  try simp only [Act.put]
                  try simp only [put_z]
                  refine wpAnyH_take (i := 6) (v := ?_) rfl (by kernel_rfl) (by kernel_rfl) (by kernel_rfl) (fun _ _ _ h => h) (Or.inl ⟨by rfl, ?_⟩) (by assumption) ?_
                  rotate_left
                  · intro w hSw; (try dsimp only at hSw); go_simp; try with_reducible rfl
                  try simp only [put_y]
                  try simp only [Act.put]
                  try simp only [put_z]
                  rw [HF.out]
                  refine wpAnyH_take (i := 7) (v := ?_) rfl (by kernel_rfl) (by kernel_rfl) (by kernel_rfl) (fun _ _ _ h => h) (Or.inl ⟨by rfl, ?_⟩) (by assumption) ?_
                  rotate_left
                  · intro w hSw; (try dsimp only at hSw); go_simp; try with_reducible rfl
                  try simp only [put_y]
                  try simp only [Act.put]
                  try simp only [put_z]
                  refine wpAnyH_done (by kernel_rfl) ?_ _
                  go_wp2_with fail
                  go_roundg (G3.L.length - (q + 1))
                  case measure => rw [Hg.out]; omega
                  case rel => exact ⟨q + 1, n + 1, rfl, by omega, by go_num, rfl⟩
                · obtain rfl : G3.L.length = q := by omega
                  have hF9 := hF8.non (Upd.refl.drewN n)
                  have hU9 := hU8.drewN n
                  obtain ⟨w9, Hw9⟩ := nm (w8.drewN n)
                  rw [Hw9.out] at hF9 hU9 ⊢
                  have CA := Lib.hid (fun (W : World) (u : Upd Non w9 W) (i : Int) => fClass_c W _ gb G3 (hF9.non u) HI3.out.inv.wf i)
                  have CB := Lib.hid (fun (W : World) (u : Upd Non w9 W) => fFind_c W _ gb G3 (hF9.non u) 0)
                  unfold gp at CA CB
                  have HF0 : Hid (findF G3 0 = (G3.c 0 : Int)) := by show _ = _; unfold findF; rw [if_pos ⟨by omega, by omega⟩]; rfl
                  have HCE : Hid (classF G3 (G3.c 0 : Int) = classF G3 0) := by
                    show _ = _
                    have h0 : 0 < G3.L.length := by omega
                    have h1 := HI3.out.inv.wf.wf.named.lt h0
                    have h2 := HI3.out.inv.wf.wf.named.idem 0 h0
                    unfold classF
                    rw [if_pos ⟨by omega, by omega⟩, if_pos ⟨by omega, by omega⟩]
                    simp only [Int.toNat_natCast, Int.toNat_zero]
                    rw [h2]
                  have hcl3 := classF_len G3 0
                  clear hfc hF8
                  go_wp2_with fail
                  refine (CA.out w9 Upd.refl 0).mono ?_
                  rintro e wa ⟨AA, ca, rfl, hoa, _, hua⟩
                  go_wp2_with fail
                  refine (CB.out wa hua).mono ?_
                  rintro e wa' ⟨rfl, rfl⟩
                  rw [HF0.out]
                  go_wp2_with fail
                  refine (CA.out wa hua (G3.c 0 : Int)).mono ?_
                  rintro e wb ⟨AB, cb, rfl, hob, _, hub⟩
                  rw [HCE.out] at hob ⊢
                  have CS := Lib.hid (sameInts_c wb _ _ AA AB ca cb (classF G3 0) (classF G3 0) (hoa.ints.upd hub (fun _ _ _ f => f)) hob.ints (by omega))
                  rw [decide_eq_true rfl] at CS
                  go_wp2_with fail
                  refine CS.out.mono ?_
                  rintro e wc ⟨rfl, nc, rfl⟩
                  have hUc := ((hU9.then_non hua).then_non hub).drewN nc
                  clear CA CB CS
                  go_wp2_with fail
                  refine (eExamples_c _).mono ?_
                  rintro e wz ⟨rfl, huz⟩
                  go_wp2_with fail
                  go_ret
                  exact ⟨rfl, hUc.then_non huz⟩
end Go.Proofs.Ytigambcefdeaoaa
