/-
  EgraphDistinct, called at a list of integers and a list of deeds, returns true and turns nothing old.
-/
import Derived.Test.YtigambcefdeaoaaDisP
import Derived.Test.YtigambcefdeaoaaDeedV
import Derived.Test.YtigambcefdeaoaaULaw
import Derived.Test.YtigambcefdeaoaaEEx
import Derived.IntWalk
namespace Go.Proofs.Ytigambcefdeaoaa
open Go.RowKit

theorem fClass_c (w : World) (P : Nat → Prop) (gb : Nat) (G : EG) (h : FG P w gb G) (hg : GWf G) (i : Int) :
    Calls Try.prog 19 #[gp gb, .int .i64 i] w fun e w' => ∃ A c, e = .returned (.slice A (classF G i).length c) ∧ Own w' 3 1 A (classF G i).length c (icells (classF G i)) ∧ (∀ k, At A k → w.heap.size ≤ k) ∧ Upd Non w w' := by
  obtain ⟨ρ, a, hM, _⟩ := h
  exact gClass_c w ρ gb a G hM hg.wf.named hg.wf.small i
theorem fDistinct_c (w : World) (P : Nat → Prop) (gb : Nat) (G : EG) (h : FG P w gb G) (hg : GWf G) (i : Int) :
    Calls Try.prog 20 #[gp gb, .int .i64 i] w fun e w' => ∃ A c, e = .returned (.slice A (distF G i).length c) ∧ Own w' 3 1 A (distF G i).length c (icells (distF G i)) ∧ (∀ k, At A k → w.heap.size ≤ k) ∧ Upd Non w w' := by
  obtain ⟨ρ, a, hM, _⟩ := h
  exact gDistinct_c w ρ gb a G hM hg i
theorem fClasses_c (w : World) (P : Nat → Prop) (gb : Nat) (G : EG) (h : FG P w gb G) (hg : GWf G) :
    Calls Try.prog 18 #[gp gb] w fun e w' => ∃ A c, e = .returned (.slice A (classesTo G.c G.L.length).length c) ∧ Own w' 3 1 A (classesTo G.c G.L.length).length c (icells (classesTo G.c G.L.length)) ∧ (∀ k, At A k → w.heap.size ≤ k) ∧ Upd Non w w' := by
  obtain ⟨ρ, a, hM, _⟩ := h
  exact gClasses_c w ρ gb a G hM hg.wf.small

def sumTo (G : EG) (q : Nat) : Nat := (((rootsL G.c G.L.length).take q).map fun r => (memL G.L.length G.c r).length).sum
theorem sumTo_succ {G : EG} {q : Nat} (h : q < (rootsL G.c G.L.length).length) : sumTo G (q + 1) = sumTo G q + (memL G.L.length G.c (rootsL G.c G.L.length)[q]).length := by
  unfold sumTo
  rw [List.take_succ_eq_append_getElem h, List.map_append, List.sum_append]
  simp
theorem sumTo_le (G : EG) (h : Named G.L.length G.c) (q : Nat) : sumTo G q ≤ G.L.length := by
  have h1 := sum_classes h
  have : sumTo G q + (((rootsL G.c G.L.length).drop q).map fun r => (memL G.L.length G.c r).length).sum = G.L.length := by
    unfold sumTo
    rw [← List.sum_append, ← List.map_append, List.take_append_drop]
    exact h1
  omega
theorem sumTo_all (G : EG) (h : Named G.L.length G.c) : sumTo G (rootsL G.c G.L.length).length = G.L.length := by
  unfold sumTo
  rw [List.take_length]
  exact sum_classes h
def cntTo (G : EG) (D : List Int) (i q : Nat) : Nat := ((D.take q).filter fun k => decide (ck G.c (G.L.getD k.toNat nd0) = ck G.c (G.L.getD i nd0))).length
theorem cntTo_succ {G : EG} {D : List Int} {i q : Nat} (h : q < D.length) : cntTo G D i (q + 1) = cntTo G D i q + if decide (ck G.c (G.L.getD D[q].toNat nd0) = ck G.c (G.L.getD i nd0)) then 1 else 0 := by
  unfold cntTo
  rw [List.take_succ_eq_append_getElem h, List.filter_append, List.length_append]
  congr 1
  by_cases e : ck G.c (G.L.getD D[q].toNat nd0) = ck G.c (G.L.getD i nd0)
  · rw [List.filter_cons_of_pos (by rw [decide_eq_true_iff]; exact e), if_pos (decide_eq_true e)]; simp
  · rw [List.filter_cons_of_neg (by rw [decide_eq_true_iff]; exact e), decide_eq_false e]; simp
theorem cntTo_le (G : EG) (D : List Int) (i q : Nat) : cntTo G D i q ≤ q := by
  unfold cntTo
  exact Nat.le_trans (List.length_filter_le _ _) (by simp; omega)

theorem cg_facts {G : EG} {L : List Nd} (hL : G.L = L) (hg : GWf G) {i k : Nat} (hi : i < L.length) (hk : k < L.length) : okKids G.L.length L[i].kids = true ∧ okKids G.L.length L[k].kids = true ∧ L[i].kids.length ≤ 33 ∧
    cgD G.c L[i].op L[i].imm L[k].op L[k].imm L[i].kids L[k].kids = decide (ck G.c (G.L.getD k nd0) = ck G.c (G.L.getD i nd0)) := by
  subst hL
  exact ⟨okKids_mono (hg.wf.kids i hi) (by omega), okKids_mono (hg.wf.kids k hk) (by omega), hg.klen hi, cgD_ck hg hi hk⟩

set_option maxRecDepth 100000 in
set_option maxHeartbeats 4000000 in
theorem eDistinct_c (w : World) (F : Nat → Prop) (LA DA : Option Addr) (lc dc : Nat) (l : List Int) (ds : List Dd) (hl : Ints w F LA l) (hd : DeedsV w F DA ds) (hli : ∀ x ∈ l, I64 x) (hll : l.length ≤ 1000000000000000) (hdl : ds.length ≤ 1000000000000000) :
    Calls Try.prog 5 #[.slice LA l.length lc, .slice DA ds.length dc] w fun e w' => e = .returned (.bool true) ∧ Upd Non w w' := by
  have C1 := Lib.hid (nodes_c w F LA lc l false hl hli hll)
  have hgw := nodesF_wf false hli
  have hlen := nodesF_len false l
  have hsm := nodesTo_small false l 14
  have hpos := (nodesF_good false l hli).pos
  have hGN := nodesF_goodN false l
  have hok := (nodesF_good false l hli).ok
  obtain ⟨L, HL⟩ := nm (nodesF false l)
  rw [HL.out] at C1 hgw hlen hpos hGN hok
  rw [show nodesTo false l 14 = L from HL.out] at hsm
  have HW := Lib.hid hgw
  have HOK := Lib.hid hok
  have HGN := Lib.hid hGN
  have HSM := Lib.hid hsm
  have hd := hd.mono (G := (· < w.heap.size)) (fun k hk _ => hk)
  clear hgw hok hGN hsm hli
  go_enter Try.func5, Try.ntmps5
  go_wp2_with fail
  refine C1.out.mono ?_
  rintro e w1 ⟨A, c, rfl, hno, hA, hu1⟩
  have hV := hno.view (F := fun _ => True) (fun _ _ => trivial) (fun _ _ _ => trivial)
  obtain ⟨_, cs, ho, _⟩ := hno
  have hcap := ho.le
  clear ho
  have C2 := Lib.hid (fNew_c w1 _ A c L hV hcap (by omega) HOK.out (fun nd h => by have := HSM.out nd h; omega) HGN.out.srt HGN.out.dif)
  unfold gp at C2
  go_wp2_with fail
  refine C2.out.mono ?_
  rintro e w2 ⟨gb, rfl, hg1, hu2⟩
  have hs1 := hu1.size
  have hF0 : FG (· < w.heap.size) w2 gb (newG L) := hg1.mono (fun k hk => by show k < w1.heap.size; have : k < w.heap.size := hk; omega)
  have hU2 := hu1.then_non hu2
  clear hg1 C1 C2 hV hA
  go_wp2_with fail
  go_loopg [7, 8] 10 (fun g i _ wr => ∃ (k : Nat) (G1 : EG), Hid (g = 10 - k) ∧ k ≤ 10 ∧ i = .int .i64 k ∧ FG (· < w.heap.size) wr gb G1 ∧ Hid (G1.L = L) ∧ Hid (GWf G1) ∧ G1.T.length ≤ k ∧ Upd Non w wr)
  case atStart => exact ⟨0, newG L, rfl, by omega, rfl, hF0, rfl, HW, by simp [newG], hU2⟩
  case round =>
    obtain ⟨k, G1, Hg, hk, rfl, hF, HL1, HW1, hT, hu⟩ := hrel
    by_cases hlt : k < ds.length ∧ k < 10
    · obtain ⟨hk1, hk2⟩ := hlt
      obtain ⟨db, dof, rfl, hdw, hdb, _, hda, hdb2, _, _⟩ := (hd.upd hu (fun _ _ _ f => f)).at_ hk1
      have C3 := Lib.hid (fNodes_c wr _ gb G1 hF HW1.out)
      rw [HL1.out] at C3
      unfold gp at C3
      generalize ds[k] = d at *
      have i0 : (0 : Int) ≤ (k : Int) := by omega
      have i1 : (k : Int) < (ds.length : Int) := by omega
      go_wp2_with fail
      refine C3.out.mono ?_
      rintro e w3 ⟨A3, c3, rfl, _, _, hu3⟩
      have hF3 := hF.non hu3
      have hU3 := hu.then_non hu3
      have hda3 := cell_upd hda hu3 (fun f => f)
      have hdb3 := cell_upd hdb2 hu3 (fun f => f)
      have CP := Lib.hid (fun (z : Int) (W : World) => (pick_c z L.length W (by omega) (by omega)).mono (R' := fun e w' => e = .returned (.int .i64 (z % (L.length : Int))) ∧ w' = W) (fun _ _ h => ⟨h.1, h.2.symm⟩))
      have CU := Lib.hid (fUnion_c w3.drew _ gb G1 (hF3.non Upd.refl.drew) HW1.out (by omega) ⟨d.a % (L.length : Int), d.b % (L.length : Int), 2, [], []⟩ none none 0 0 .nil .nil (by simp) (by simp))
      unfold gp stpV at CU
      have q0 : w3.drew.cell? ⟨db, dof + k * 9 + 1, none⟩ = some (.int .i64 d.a) := hda3
      have q1 : w3.drew.cell? ⟨db, dof + k * 9 + 2, none⟩ = some (.int .i64 d.b) := hdb3
      have mx : (1 : Int) < (L.length : Int) := by omega
      clear C3 hda hdb2
      go_wp2_with fail
      refine wp_region_held_drew (S := fun w' => w'.cell? ⟨db, dof + k * 9 + 1, none⟩ = some (.int .i64 d.a) ∧ w'.cell? ⟨db, dof + k * 9 + 2, none⟩ = some (.int .i64 d.b)) (by kernel_rfl) ⟨q0, q1⟩ (fun hHeld => ?_)
      refine wpAnyH_take (i := 0) (v := ?_) rfl (by kernel_rfl) (by kernel_rfl) (by kernel_rfl) (fun _ _ _ h => h) (Or.inl ⟨by rfl, ?_⟩) (by assumption) ?_
      rotate_left
      · intro w hSw; (try dsimp only at hSw); go_simp; try with_reducible rfl
      try simp only [put_y]
      try simp only [Act.put]
      try simp only [put_z]
      refine wpAnyH_take (i := 1) (v := ?_) rfl (by kernel_rfl) (by kernel_rfl) (by kernel_rfl) (fun _ _ _ h => h) (Or.inl ⟨by rfl, ?_⟩) (by assumption) ?_
      rotate_left
      · intro w hSw; (try dsimp only at hSw); go_simp; try with_reducible rfl
      try simp only [put_y]
      try simp only [Act.put]
      try simp only [put_z]
      refine wpAnyH_take (i := 2) (v := ?_) rfl (by kernel_rfl) (by kernel_rfl) (by kernel_rfl) (fun _ _ _ h => h) (Or.inl ⟨by rfl, ?_⟩) (by assumption) ?_
      rotate_left
      · intro w hSw; (try dsimp only at hSw); go_simp; try with_reducible rfl
      try simp only [put_y]
      try simp only [Act.put]
      try simp only [put_z]
      refine wpAnyH_take (i := 3) (v := ?_) rfl (by kernel_rfl) (by kernel_rfl) (by kernel_rfl) (fun _ _ _ h => h) (Or.inl ⟨by rfl, ?_⟩) (by assumption) ?_
      rotate_left
      · intro w hSw; (try dsimp only at hSw); go_simp; try with_reducible rfl
      try simp only [put_y]
      try simp only [Act.put]
      try simp only [put_z]
      refine wpAnyH_take (i := 4) (v := ?_) rfl (by kernel_rfl) (by kernel_rfl) (by kernel_rfl) (fun _ _ _ h => h) (Or.inl ⟨by rfl, ?_⟩) (by assumption) ?_
      rotate_left
      · intro w hSw; (try dsimp only at hSw); go_simp; try with_reducible rfl
      try simp only [put_y]
      try simp only [Act.put]
      try simp only [put_z]
      refine wpAnyH_take (i := 5) (v := ?_) rfl (by kernel_rfl) (by kernel_rfl) (by kernel_rfl) (fun _ _ _ h => h) (Or.inl ⟨by rfl, ?_⟩) (by assumption) ?_
      rotate_left
      · intro w hSw; (try dsimp only at hSw); go_simp; try with_reducible rfl
      try simp only [put_y]
      try simp only [Act.put]
      try simp only [put_z]
      refine wpAnyH_take (i := 6) (v := ?_) rfl (by kernel_rfl) (by kernel_rfl) (by kernel_rfl) (fun _ _ _ h => h) (Or.inl ⟨by rfl, ?_⟩) (by assumption) ?_
      rotate_left
      · intro w hSw; (try dsimp only at hSw); go_simp; try with_reducible rfl
      try simp only [put_y]
      try simp only [Act.put]
      try simp only [put_z]
      refine wpAnyH_take (i := 7) (v := ?_) rfl (by kernel_rfl) (by kernel_rfl) (by kernel_rfl) (fun _ _ _ h => h) (Or.inl ⟨by rfl, ?_⟩) (by assumption) ?_
      rotate_left
      · intro w hSw; (try dsimp only at hSw); go_simp; try with_reducible rfl
      try simp only [put_y]
      try simp only [Act.put]
      try simp only [put_z]
      refine wpAnyH_takeC (i := 8) (v := ?v1) rfl (by kernel_rfl) (by kernel_rfl) (by kernel_rfl) (fun _ _ _ h => h) ⟨by rfl, ?f1, ?a1, ?r1, ?c1⟩ (by assumption) ?m1
      case r1 => intro w; go_simp; constructor <;> with_reducible rfl
      case c1 => intro W hSw; refine (CP.out d.a W).mono ?_; rintro e w' ⟨rfl, rfl⟩; constructor <;> with_reducible rfl
      try simp only [put_y]
      try simp only [Act.put]
      try simp only [put_z]
      refine wpAnyH_take (i := 9) (v := ?_) rfl (by kernel_rfl) (by kernel_rfl) (by kernel_rfl) (fun _ _ _ h => h) (Or.inl ⟨by rfl, ?_⟩) (by assumption) ?_
      rotate_left
      · intro w hSw; (try dsimp only at hSw); go_simp; try with_reducible rfl
      try simp only [put_y]
      try simp only [Act.put]
      try simp only [put_z]
      refine wpAnyH_take (i := 10) (v := ?_) rfl (by kernel_rfl) (by kernel_rfl) (by kernel_rfl) (fun _ _ _ h => h) (Or.inl ⟨by rfl, ?_⟩) (by assumption) ?_
      rotate_left
      · intro w hSw; (try dsimp only at hSw); go_simp; try with_reducible rfl
      try simp only [put_y]
      try simp only [Act.put]
      try simp only [put_z]
      refine wpAnyH_take (i := 11) (v := ?_) rfl (by kernel_rfl) (by kernel_rfl) (by kernel_rfl) (fun _ _ _ h => h) (Or.inl ⟨by rfl, ?_⟩) (by assumption) ?_
      rotate_left
      · intro w hSw; (try dsimp only at hSw); go_simp; try with_reducible rfl
      try simp only [put_y]
      try simp only [Act.put]
      try simp only [put_z]
      refine wpAnyH_take (i := 12) (v := ?_) rfl (by kernel_rfl) (by kernel_rfl) (by kernel_rfl) (fun _ _ _ h => h) (Or.inl ⟨by rfl, ?_⟩) (by assumption) ?_
      rotate_left
      · intro w hSw; (try dsimp only at hSw); go_simp; try with_reducible rfl
      try simp only [put_y]
      try simp only [Act.put]
      try simp only [put_z]
      refine wpAnyH_take (i := 13) (v := ?_) rfl (by kernel_rfl) (by kernel_rfl) (by kernel_rfl) (fun _ _ _ h => h) (Or.inl ⟨by rfl, ?_⟩) (by assumption) ?_
      rotate_left
      · intro w hSw; (try dsimp only at hSw); go_simp; try with_reducible rfl
      try simp only [put_y]
      try simp only [Act.put]
      try simp only [put_z]
      refine wpAnyH_take (i := 14) (v := ?_) rfl (by kernel_rfl) (by kernel_rfl) (by kernel_rfl) (fun _ _ _ h => h) (Or.inl ⟨by rfl, ?_⟩) (by assumption) ?_
      rotate_left
      · intro w hSw; (try dsimp only at hSw); go_simp; try with_reducible rfl
      try simp only [put_y]
      try simp only [Act.put]
      try simp only [put_z]
      refine wpAnyH_take (i := 15) (v := ?_) rfl (by kernel_rfl) (by kernel_rfl) (by kernel_rfl) (fun _ _ _ h => h) (Or.inl ⟨by rfl, ?_⟩) (by assumption) ?_
      rotate_left
      · intro w hSw; (try dsimp only at hSw); go_simp; try with_reducible rfl
      try simp only [put_y]
      try simp only [Act.put]
      try simp only [put_z]
      refine wpAnyH_takeC (i := 16) (v := ?v2) rfl (by kernel_rfl) (by kernel_rfl) (by kernel_rfl) (fun _ _ _ h => h) ⟨by rfl, ?f2, ?a2, ?r2, ?c2⟩ (by assumption) ?m2
      case r2 => intro w; go_simp; constructor <;> with_reducible rfl
      case c2 => intro W hSw; refine (CP.out d.b W).mono ?_; rintro e w' ⟨rfl, rfl⟩; constructor <;> with_reducible rfl
      try simp only [put_y]
      try simp only [Act.put]
      try simp only [put_z]
      refine wpAnyH_take (i := 17) (v := ?_) rfl (by kernel_rfl) (by kernel_rfl) (by kernel_rfl) (fun _ _ _ h => h) (Or.inl ⟨by rfl, ?_⟩) (by assumption) ?_
      rotate_left
      · intro w hSw; (try dsimp only at hSw); go_simp; try with_reducible rfl
      try simp only [put_y]
      try simp only [Act.put]
      try simp only [put_z]
      refine wpAnyH_ready (rs := [18]) (by kernel_rfl) (by simp) ?_
      refine AllReadyH.cons rfl (fun K hK => ?_) AllReadyH.nil
      go_simp
      refine CU.out.mono ?_
      rintro e w4 ⟨rfl, hF4, hu4'⟩
      have hu4 : Upd (Out (· < w.heap.size)) w3 w4 := (Upd.refl.drew (S := Out (· < w.heap.size))).trans hu4' (fun _ _ h => h)
      have hdw : db < w.heap.size := hdw
      have hT4 := uniG_T G1 ⟨d.a % (L.length : Int), d.b % (L.length : Int), 2, [], []⟩
      have HL4 : Hid ((uniG G1 ⟨d.a % (L.length : Int), d.b % (L.length : Int), 2, [], []⟩).L = L) := (uniG_L _ _).trans HL1.out
      have HW4 := Lib.hid (uniG_wf (s := ⟨d.a % (L.length : Int), d.b % (L.length : Int), 2, [], []⟩) HW1.out)
      have hU4 := hU3.out_trans hu4 (fun i hi => hi)
      clear mx
      go_wp2_with fail
      refine hK.out _ _ ?_ (fun hHeld => ?_)
      · exact ⟨cell_upd hda3 hu4 (fun h => h hdw), cell_upd hdb3 hu4 (fun h => h hdw)⟩
      clear hK K
      try simp only [put_y]
      try simp only [Act.put]
      try simp only [put_z]
      refine wpAnyH_done (by kernel_rfl) ?_ _
      go_wp2_with fail
      go_roundg (10 - (k + 1))
      case measure => rw [Hg.out]; omega
      case rel => exact ⟨k + 1, _, rfl, by omega, by go_num, hF4, HL4, HW4, by omega, hU4⟩
    · go_upto_region 5 with fail
      go_cut [39] (fun s wx => s = .bool false ∧ wr = wx)
      case first =>
        by_cases h1 : k < ds.length
        · obtain rfl : k = 10 := by omega
          go_wp2_with fail
          go_meet
          exact ⟨rfl, rfl⟩
        · go_wp2_with fail
          go_meet
          exact ⟨rfl, rfl⟩
      case rest =>
        obtain ⟨rfl, rfl⟩ := hcut
        have C3 := Lib.hid (fNodes_c wr _ gb G1 hF HW1.out)
        rw [HL1.out] at C3
        unfold gp at C3
        clear hlt Hg
        obtain ⟨w3, e3⟩ : ∃ w3 : World, w3 = wr := ⟨_, rfl⟩
        subst e3
        go_wp2_with fail
        refine C3.out.mono ?_
        rintro e w4 ⟨A4, c4, rfl, hno4, hA4, hu4⟩
        have hF4 := hF.non hu4
        have hU4 := hu.then_non hu4
        have hX4 := hno4.view (F := fun _ => True) (fun _ _ => trivial) (fun _ _ _ => trivial)
        have C5 := Lib.hid (fClasses_c w4 _ gb G1 hF4 HW1.out)
        obtain ⟨R, HR⟩ := nm (classesTo G1.c G1.L.length)
        rw [HR.out] at C5
        unfold gp at C5
        clear C3 hno4
        go_wp2_with fail
        refine C5.out.mono ?_
        rintro e w5 ⟨A5, c5, rfl, ho5, hA5, hu5⟩
        have hF5 := hF4.non hu5
        have hU5 := hU4.then_non hu5
        have hX5 := hX4.upd hu5 (fun _ _ _ f => f)
        have hR5 := ho5.ints
        have HRL : Hid (R.length = (rootsL G1.c G1.L.length).length) := by show _ = _; rw [← HR.out, classesTo_roots]; simp
        have hRle : R.length ≤ L.length := by have := classesTo_len G1.c G1.L.length; rw [HR.out, HL1.out] at this; exact this
        clear C5 ho5
        go_wp2_with fail
        go_loopg [10, 12, 13, 14, 16, 17, 19, 69] R.length (fun g sm _ _ _ _ _ _ i wr => ∃ q : Nat, Hid (g = R.length - q) ∧ q ≤ R.length ∧ i = .int .i64 q ∧ Hid (sm = .int .i64 (sumTo G1 q : Int)) ∧ Upd Non w5 wr)
        case atStart => exact ⟨0, rfl, by omega, rfl, rfl, Upd.refl⟩
        case round =>
          obtain ⟨q, Hg, hq, rfl, Hsm, hu⟩ := hrel
          have hsm := Hsm.out
          subst hsm
          clear Hsm
          by_cases hqt : q < R.length
          · have hqR : q < (rootsL G1.c G1.L.length).length := by rw [← HRL.out]; exact hqt
            obtain ⟨rb, ro, rfl, _, hrb, hr0⟩ := (hR5.upd hu (fun _ _ _ f => f)).at_ hqt
            have hRq : R[q] = (((rootsL G1.c G1.L.length)[q] : Nat) : Int) := by
              have h0 := HR.out
              subst h0
              simp [classesTo_roots]
            obtain ⟨hrn, hrc⟩ := rootsL_mem (List.getElem_mem hqR)
            have HSS := Lib.hid (sumTo_succ hqR)
            rw [hRq] at hr0
            clear hRq
            generalize (rootsL G1.c G1.L.length)[q] = r at *
            have hsq := sumTo_le G1 HW1.out.wf.named (q + 1)
            obtain ⟨sq, Hsq⟩ := nm (sumTo G1 q)
            rw [HSS.out, Hsq.out] at hsq
            rw [Hsq.out] at HSS ⊢
            have HCF := Lib.hid (classF_root hrn hrc)
            obtain ⟨t, hMt⟩ := memL_head HW1.out.wf.named hrn hrc
            obtain ⟨u, hDu⟩ := dist_head G1.c G1.L (x := (r : Int)) (t := t) t.length
            have hDF : distF G1 (r : Int) = (r : Int) :: u := by unfold distF; rw [HCF.out, hMt]; exact hDu
            have HFr : Hid (findF G1 (r : Int) = (r : Int)) := by show _ = _; unfold findF; rw [if_pos ⟨by omega, by omega⟩, Int.toNat_natCast, hrc]
            have HM1 : Hid (∀ x ∈ classF G1 (r : Int), 0 ≤ x ∧ x.toNat < G1.L.length) := fun x hx => classF_mem hx
            have HD1 : Hid (∀ x ∈ distF G1 (r : Int), 0 ≤ x ∧ x.toNat < G1.L.length) := fun x hx => classF_mem (distTo_mem (Nat.le_refl _) hx)
            have HO : Hid (∀ x ∈ classF G1 (r : Int), ((distF G1 (r : Int)).filter fun k => decide (ck G1.c (G1.L.getD k.toNat nd0) = ck G1.c (G1.L.getD x.toNat nd0))).length = 1) := fun x hx => dist_one hx
            have hFW : ∀ W : World, Upd Non w5 W → FG (· < w.heap.size) W gb G1 := fun W u => hF5.non u
            have C6 := Lib.hid (fClass_c wr _ gb G1 (hFW wr hu) HW1.out (r : Int))
            have C7 := Lib.hid (fun (W : World) (u : Upd Non w5 W) => fDistinct_c W _ gb G1 (hFW W u) HW1.out (r : Int))
            have C8 := Lib.hid (fun (W : World) (u : Upd Non w5 W) => fFind_c W _ gb G1 (hFW W u) (r : Int))
            have C9 := Lib.hid (fun (W : World) (u : Upd Non w5 W) => lCongruent_c W _ gb G1 (hFW W u))
            have hM0 : (classF G1 (r : Int)) = (r : Int) :: t := by rw [HCF.out]; exact hMt
            rw [HFr.out] at C8
            have HSS2 : Hid (sumTo G1 (q + 1) = sq + (classF G1 (r : Int)).length) := by show _ = _; rw [HSS.out, HCF.out]
            have hML : sq + (classF G1 (r : Int)).length ≤ G1.L.length := by rw [HCF.out]; exact hsq
            have hL17 : G1.L.length ≤ 17 := by rw [HL1.out]; exact hlen
            obtain ⟨M, HMM⟩ := nm (classF G1 (r : Int))
            obtain ⟨D, HDD⟩ := nm (distF G1 (r : Int))
            rw [HMM.out] at C6 HM1 HO hM0 HSS2 hML
            rw [HDD.out] at C7 HD1 HO hDF
            have hMp : 0 < M.length := by rw [hM0]; simp
            have hDp : 0 < D.length := by rw [hDF]; simp
            have hMz : M[0] = (r : Int) := by simp [hM0]
            have hDz : D[0] = (r : Int) := by simp [hDF]
            have hDl : D.length ≤ 17 := by
              have h1 := distTo_len G1.c G1.L (classF G1 (r : Int)) (classF G1 (r : Int)).length
              have h2 := classF_len G1 (r : Int)
              have : D.length ≤ (classF G1 (r : Int)).length := by rw [← HDD.out]; exact h1
              omega
            unfold gp at C6 C7 C8 C9
            clear hMt hDu hDF hM0 HCF HFr HSS Hsq hsq
            go_wp2_with fail
            refine C6.out.mono ?_
            rintro e w7 ⟨A7, c7, rfl, ho7, hA7, hu7⟩
            have hu57 := hu.then_non hu7
            have hM7 := ho7.ints
            clear C6 ho7
            go_wp2_with fail
            refine (C7.out w7 hu57).mono ?_
            rintro e w8 ⟨A8, c8, rfl, ho8, hA8, hu8⟩
            have hu58 := hu57.then_non hu8
            have hM8 := hM7.upd hu8 (fun _ _ _ f => f)
            have hD8 := ho8.ints
            obtain ⟨mb, mo, e1, _, hmb, hm0⟩ := hM8.at_ hMp
            obtain ⟨db', do', e2, _, hdb', hd0⟩ := hD8.at_ hDp
            rw [hMz, Nat.add_zero] at hm0
            rw [hDz, Nat.add_zero] at hd0
            subst e1; subst e2
            clear C7 ho8 hM7 hMz hDz
            have t1 : ((M.length : Int) == 0) = false := by rw [beq_eq_false_iff_ne]; omega
            have t2 : ((D.length : Int) == 0) = false := by rw [beq_eq_false_iff_ne]; omega
            have t3 : ((r : Int) != (r : Int)) = false := by simp
            go_wp2_with fail
            refine (C8.out w8 hu58).mono ?_
            rintro e w8' ⟨rfl, rfl⟩
            clear t1 t2
            go_wp2_with fail
            go_loopg [16, 17, 19, 114] M.length (fun g _ _ _ i wr => ∃ p : Nat, Hid (g = M.length - p) ∧ p ≤ M.length ∧ i = .int .i64 p ∧ Upd Non w8 wr)
            case atStart => exact ⟨0, rfl, by omega, rfl, Upd.refl⟩
            case round =>
              obtain ⟨p, Hg3, hp, rfl, hu⟩ := hrel
              by_cases hpt : p < M.length
              · obtain ⟨mb', mo', e1, _, hmb', hmp⟩ := (hM8.upd hu (fun _ _ _ f => f)).at_ hpt
                obtain ⟨rfl, rfl⟩ : mb = mb' ∧ mo = mo' := by injection e1 with e1; injection e1 with a b; exact ⟨a, b⟩
                obtain ⟨x0, x1⟩ := HM1.out _ (List.getElem_mem hpt)
                have HOx := Lib.hid (HO.out _ (List.getElem_mem hpt))
                generalize M[p] = x at *
                obtain ⟨xi, rfl⟩ := Int.eq_ofNat_of_zero_le x0
                have x1 : xi < G1.L.length := x1
                have HOx : Hid ((D.filter fun k => decide (ck G1.c (G1.L.getD k.toNat nd0) = ck G1.c (G1.L.getD xi nd0))).length = 1) := HOx
                have hxL : xi < L.length := by rw [← HL1.out]; exact x1
                clear e1 x0
                obtain ⟨wq, eq⟩ : ∃ wq : World, wq = wr := ⟨_, rfl⟩
                subst eq
                go_wp2_with fail
                go_loopg [17, 19, 120] D.length (fun g m _ i wr => ∃ s : Nat, Hid (g = D.length - s) ∧ s ≤ D.length ∧ i = .int .i64 s ∧ Hid (m = .int .i64 (cntTo G1 D xi s : Int)) ∧ Upd Non w8 wr)
                case atStart => exact ⟨0, rfl, by omega, rfl, rfl, hu⟩
                case round =>
                  obtain ⟨s, Hg4, hs, rfl, Hm, hu'⟩ := hrel
                  have hm := Hm.out
                  subst hm
                  clear Hm
                  by_cases hst : s < D.length
                  · obtain ⟨db'', do'', e2, _, hdb'', hdp⟩ := (hD8.upd hu' (fun _ _ _ f => f)).at_ hst
                    obtain ⟨rfl, rfl⟩ : db' = db'' ∧ do' = do'' := by injection e2 with e2; injection e2 with a b; exact ⟨a, b⟩
                    obtain ⟨y0, y1⟩ := HD1.out _ (List.getElem_mem hst)
                    have HC := Lib.hid (cntTo_succ (G := G1) (i := xi) hst)
                    have hcl := cntTo_le G1 D xi s
                    obtain ⟨y, Hy⟩ := nm D[s]
                    rw [Hy.out] at hdp y0 y1 HC
                    obtain ⟨yi, rfl⟩ := Int.eq_ofNat_of_zero_le y0
                    have y1 : yi < G1.L.length := y1
                    have HC : Hid (cntTo G1 D xi (s + 1) = cntTo G1 D xi s + if decide (ck G1.c (G1.L.getD yi nd0) = ck G1.c (G1.L.getD xi nd0)) then 1 else 0) := HC
                    have hyL : yi < L.length := by rw [← HL1.out]; exact y1
                    clear e2 y0
                    obtain ⟨lb, lo, rfl, _, hlb, n1, n2, KA, kc, n3, hkc, hki⟩ := (hX5.upd (hu58.then_non hu') (fun _ _ _ f => f)).at_ hxL
                    obtain ⟨lb', lo', e3, _, _, m1, m2, KB, kd, m3, hkd, hkj⟩ := (hX5.upd (hu58.then_non hu') (fun _ _ _ f => f)).at_ hyL
                    obtain ⟨rfl, rfl⟩ : lb = lb' ∧ lo = lo' := by injection e3 with e3; injection e3 with a b; exact ⟨a, b⟩
                    obtain ⟨k1, k2, k3, k4⟩ := cg_facts HL1.out HW1.out hxL hyL
                    clear e3
                    generalize L[xi] = nx at *
                    generalize L[yi] = ny at *
                    obtain ⟨ox, ix, kx⟩ := nx
                    obtain ⟨oy, iy, ky⟩ := ny
                    dsimp only at n1 n2 n3 hkc hki m1 m2 m3 hkd hkj k1 k2 k3 k4
                    have C10 := Lib.hid (C9.out wr.drew ((hu58.then_non hu').drew) ox ix oy iy kx ky KA KB kc kd (fun _ => True) (fun _ => True) (hki.upd (Upd.refl.drew (S := Non)) (fun _ _ _ f => f)) (hkj.upd (Upd.refl.drew (S := Non)) (fun _ _ _ f => f)) (by omega) k1 k2)
                    rw [k4] at C10
                    have i0 : (0 : Int) ≤ (xi : Int) := by omega
                    have i1 : (xi : Int) < (L.length : Int) := by omega
                    have i2 : (0 : Int) ≤ (yi : Int) := by omega
                    have i3 : (yi : Int) < (L.length : Int) := by omega
                    clear k1 k2 k3 k4
                    have s1 : wr.drew.cell? ⟨lb, lo + xi * 3, none⟩ = some (.int .i64 ox) := n1
                    have s2 : wr.drew.cell? ⟨lb, lo + xi * 3 + 1, none⟩ = some (.int .i64 ix) := n2
                    have s3 : wr.drew.cell? ⟨lb, lo + xi * 3 + 2, none⟩ = some (.slice KA kx.length kc) := n3
                    have s4 : wr.drew.cell? ⟨lb, lo + yi * 3, none⟩ = some (.int .i64 oy) := m1
                    have s5 : wr.drew.cell? ⟨lb, lo + yi * 3 + 1, none⟩ = some (.int .i64 iy) := m2
                    have s6 : wr.drew.cell? ⟨lb, lo + yi * 3 + 2, none⟩ = some (.slice KB ky.length kd) := m3
                    obtain ⟨bt, Hbt⟩ := nm (decide (ck G1.c (G1.L.getD yi nd0) = ck G1.c (G1.L.getD xi nd0)))
                    rw [Hbt.out] at C10
                    have HC2 : Hid (cntTo G1 D xi (s + 1) = cntTo G1 D xi s + bif bt then 1 else 0) := by
                      show _ = _
                      rw [HC.out, ← Hbt.out]
                      by_cases e : ck G1.c (G1.L.getD yi nd0) = ck G1.c (G1.L.getD xi nd0)
                      · rw [if_pos (decide_eq_true e), decide_eq_true e]; rfl
                      · rw [if_neg (by rw [decide_eq_true_iff]; exact e), decide_eq_false e]; rfl
                    clear HC Hbt
                    go_wp2_with fail
                    refine wp_region_held_drew (S := fun w' => w'.cell? ⟨lb, lo + xi * 3, none⟩ = some (.int .i64 ox) ∧ w'.cell? ⟨lb, lo + xi * 3 + 1, none⟩ = some (.int .i64 ix) ∧ w'.cell? ⟨lb, lo + xi * 3 + 2, none⟩ = some (.slice KA kx.length kc) ∧ w'.cell? ⟨lb, lo + yi * 3, none⟩ = some (.int .i64 oy) ∧ w'.cell? ⟨lb, lo + yi * 3 + 1, none⟩ = some (.int .i64 iy) ∧ w'.cell? ⟨lb, lo + yi * 3 + 2, none⟩ = some (.slice KB ky.length kd)) (by kernel_rfl) ⟨s1, s2, s3, s4, s5, s6⟩ (fun hHeld => ?_)
                    refine wpAnyH_take (i := 0) (v := ?_) rfl (by kernel_rfl) (by kernel_rfl) (by kernel_rfl) (fun _ _ _ h => h) (Or.inl ⟨by rfl, ?_⟩) (by assumption) ?_
                    rotate_left
                    · intro w hSw; (try dsimp only at hSw); go_simp; try with_reducible rfl
                    try simp only [put_y]
                    try simp only [Act.put]
                    try simp only [put_z]
                    refine wpAnyH_take (i := 1) (v := ?_) rfl (by kernel_rfl) (by kernel_rfl) (by kernel_rfl) (fun _ _ _ h => h) (Or.inl ⟨by rfl, ?_⟩) (by assumption) ?_
                    rotate_left
                    · intro w hSw; (try dsimp only at hSw); go_simp; try with_reducible rfl
                    try simp only [put_y]
                    try simp only [Act.put]
                    try simp only [put_z]
                    refine wpAnyH_take (i := 2) (v := ?_) rfl (by kernel_rfl) (by kernel_rfl) (by kernel_rfl) (fun _ _ _ h => h) (Or.inl ⟨by rfl, ?_⟩) (by assumption) ?_
                    rotate_left
                    · intro w hSw; (try dsimp only at hSw); go_simp; try with_reducible rfl
                    try simp only [put_y]
                    try simp only [Act.put]
                    try simp only [put_z]
                    refine wpAnyH_take (i := 3) (v := ?_) rfl (by kernel_rfl) (by kernel_rfl) (by kernel_rfl) (fun _ _ _ h => h) (Or.inl ⟨by rfl, ?_⟩) (by assumption) ?_
                    rotate_left
                    · intro w hSw; (try dsimp only at hSw); go_simp; try with_reducible rfl
                    try simp only [put_y]
                    try simp only [Act.put]
                    try simp only [put_z]
                    refine wpAnyH_take (i := 4) (v := ?_) rfl (by kernel_rfl) (by kernel_rfl) (by kernel_rfl) (fun _ _ _ h => h) (Or.inl ⟨by rfl, ?_⟩) (by assumption) ?_
                    rotate_left
                    · intro w hSw; (try dsimp only at hSw); go_simp; try with_reducible rfl
                    try simp only [put_y]
                    try simp only [Act.put]
                    try simp only [put_z]
                    refine wpAnyH_take (i := 5) (v := ?_) rfl (by kernel_rfl) (by kernel_rfl) (by kernel_rfl) (fun _ _ _ h => h) (Or.inl ⟨by rfl, ?_⟩) (by assumption) ?_
                    rotate_left
                    · intro w hSw; (try dsimp only at hSw); go_simp; try with_reducible rfl
                    try simp only [put_y]
                    try simp only [Act.put]
                    try simp only [put_z]
                    refine wpAnyH_take (i := 6) (v := ?_) rfl (by kernel_rfl) (by kernel_rfl) (by kernel_rfl) (fun _ _ _ h => h) (Or.inl ⟨by rfl, ?_⟩) (by assumption) ?_
                    rotate_left
                    · intro w hSw; (try dsimp only at hSw); go_simp; try with_reducible rfl
                    try simp only [put_y]
                    try simp only [Act.put]
                    try simp only [put_z]
                    refine wpAnyH_take (i := 7) (v := ?_) rfl (by kernel_rfl) (by kernel_rfl) (by kernel_rfl) (fun _ _ _ h => h) (Or.inl ⟨by rfl, ?_⟩) (by assumption) ?_
                    rotate_left
                    · intro w hSw; (try dsimp only at hSw); go_simp; try with_reducible rfl
                    try simp only [put_y]
                    try simp only [Act.put]
                    try simp only [put_z]
                    refine wpAnyH_take (i := 8) (v := ?_) rfl (by kernel_rfl) (by kernel_rfl) (by kernel_rfl) (fun _ _ _ h => h) (Or.inl ⟨by rfl, ?_⟩) (by assumption) ?_
                    rotate_left
                    · intro w hSw; (try dsimp only at hSw); go_simp; try with_reducible rfl
                    try simp only [put_y]
                    try simp only [Act.put]
                    try simp only [put_z]
                    refine wpAnyH_ready (rs := [9]) (by kernel_rfl) (by simp) ?_
                    refine AllReadyH.cons rfl (fun K hK => ?_) AllReadyH.nil
                    go_simp
                    refine C10.out.mono ?_
                    rintro e wz ⟨rfl, huz'⟩
                    have huz : Upd Non wr wz := Upd.refl.drew.then_non huz'
                    have hU9 := hu'.then_non huz
                    go_wp2_with fail
                    refine hK.out _ _ ?_ (fun hHeld => ?_)
                    · exact ⟨cell_upd n1 huz (fun f => f), cell_upd n2 huz (fun f => f), cell_upd n3 huz (fun f => f), cell_upd m1 huz (fun f => f), cell_upd m2 huz (fun f => f), cell_upd m3 huz (fun f => f)⟩
                    clear hK K
                    try simp only [put_y]
                    try simp only [Act.put]
                    try simp only [put_z]
                    refine wpAnyH_done (by kernel_rfl) ?_ _
                    cases bt with
                    | true =>
                      go_wp2_with fail
                      go_roundg (D.length - (s + 1))
                      case measure => rw [Hg4.out]; omega
                      case rel => exact ⟨s + 1, rfl, by omega, by go_num, by show _ = _; rw [HC2.out]; go_num, hU9⟩
                    | false =>
                      go_wp2_with fail
                      go_roundg (D.length - (s + 1))
                      case measure => rw [Hg4.out]; omega
                      case rel => exact ⟨s + 1, rfl, by omega, by go_num, by show _ = _; rw [HC2.out]; rfl, hU9⟩
                  · obtain rfl : D.length = s := by omega
                    have h1 : cntTo G1 D xi D.length = 1 := by unfold cntTo; rw [List.take_length]; exact HOx.out
                    rw [h1]
                    clear h1
                    go_wp2_with fail
                    go_roundg (M.length - (p + 1))
                    case measure => rw [Hg3.out]; omega
                    case rel => exact ⟨p + 1, rfl, by omega, by go_num, hu'⟩
              · obtain rfl : M.length = p := by omega
                go_wp2_with fail
                go_roundg (R.length - (q + 1))
                case measure => rw [Hg.out]; omega
                case rel => exact ⟨q + 1, rfl, by omega, by go_num, by show _ = _; rw [HSS2.out]; go_num, hu58.then_non hu⟩
          · obtain rfl : R.length = q := by omega
            have hs : sumTo G1 R.length = L.length := by rw [HRL.out, sumTo_all G1 HW1.out.wf.named, HL1.out]
            rw [hs]
            have t1 : ((L.length : Int) == (L.length : Int)) = true := by simp
            clear hs
            go_wp2_with fail
            refine (eExamples_c _).mono ?_
            rintro e w9 ⟨rfl, hu9⟩
            go_wp2_with fail
            go_ret
            exact ⟨rfl, (hU5.then_non hu).then_non hu9⟩
end Go.Proofs.Ytigambcefdeaoaa
