/-
  EgraphRebuildCloses, called at a list of integers and a list of deeds, returns true and turns nothing old.
-/
import Derived.Test.YtigambcefdeaoaaStpP
import Derived.Test.YtigambcefdeaoaaDeedA
import Derived.Test.YtigambcefdeaoaaNoChC
import Derived.Test.YtigambcefdeaoaaClasses
import Derived.Test.YtigambcefdeaoaaPairsV
namespace Go.Proofs.Ytigambcefdeaoaa
open Go.RowKit

/-- Add of a node whose operands lie in blocks made since. -/
theorem fAddNew_c (w0 w : World) (P : Nat → Prop) (gb : Nat) (G : EG) (h : FG P w0 gb G) (u : Upd Non w0 w) (hg : GWf G) (hT : G.T.length ≤ 900000000) (nd : Nd) (KA : Option Addr) (kc : Nat) (hk : Own w 3 1 KA nd.kids.length kc (icells nd.kids)) (hn : ∀ k, At KA k → w0.heap.size ≤ k) (hok : NdOk nd) (hkl : nd.kids.length ≤ 100000000000) :
    Calls Try.prog 22 #[gp gb, .agg #[.int .i64 nd.op, .int .i64 nd.imm, .slice KA nd.kids.length kc]] w fun e w' => e = .returned (addRet G nd) ∧ FG P w' gb (addG G nd) ∧ Upd (Out P) w w' := by
  obtain ⟨op, imm, kids⟩ := nd
  have hf := h.grow u
  have hi : Ints w (fun k => P k ∨ (w0.heap.size ≤ k ∧ k < w.heap.size)) KA kids := hk.ints.mono (fun k hk h => .inr ⟨hn k h, hk⟩)
  exact (fAdd_c w _ gb G hf hg hT op imm kids KA kc hi hk.le hok hkl).mono fun e w' ⟨he, hf', hu⟩ => ⟨he, hf'.mono (fun k hk => .inl hk), hu.mono (fun k _ hk hp => hk (.inl hp))⟩

set_option maxRecDepth 100000 in
set_option maxHeartbeats 8000000 in
theorem eRebuild_c (w : World) (F : Nat → Prop) (LA DA : Option Addr) (lc dc : Nat) (l : List Int) (ds : List Dd) (hl : Ints w F LA l) (hd : DeedsV w F DA ds) (hdo : ∀ d ∈ ds, DdOk d) (hli : ∀ x ∈ l, I64 x) (hll : l.length ≤ 1000000000000000) (hdl : ds.length ≤ 1000000000000000) :
    Calls Try.prog 8 #[.slice LA l.length lc, .slice DA ds.length dc] w fun e w' => e = .returned (.bool true) ∧ Upd Non w w' := by
  have C1 := Lib.hid (nodes_c w F LA lc l false hl hli hll)
  have hgw := nodesF_wf false hli
  have hlen := nodesF_len false l
  have hsm := nodesTo_small false l 14
  have hpos := (nodesF_good false l hli).pos
  have hGN := nodesF_goodN false l
  have hok := (nodesF_good false l hli).ok
  obtain ⟨L, HL⟩ := nm (nodesF false l)
  rw [HL.out] at C1 hgw hlen hpos hGN hok
  rw [show nodesTo false l 14 = L from HL.out] at hsm
  have HW := Lib.hid hgw
  have HOK := Lib.hid hok
  have HGN := Lib.hid hGN
  have HSM := Lib.hid hsm
  have HDO := Lib.hid hdo
  have hd := hd.mono (G := (· < w.heap.size)) (fun k hk _ => hk)
  clear hgw hok hGN hsm hli hdo
  go_enter Try.func8, Try.ntmps8
  go_wp2_with fail
  refine C1.out.mono ?_
  rintro e w1 ⟨A, c, rfl, hno, hA, hu1⟩
  have hV := hno.view (F := fun _ => True) (fun _ _ => trivial) (fun _ _ _ => trivial)
  obtain ⟨_, cs, ho, _⟩ := hno
  have hcap := ho.le
  clear ho
  have C2 := Lib.hid (fNew_c w1 _ A c L hV hcap (by omega) HOK.out (fun nd h => by have := HSM.out nd h; omega) HGN.out.srt HGN.out.dif)
  unfold gp at C2
  go_wp2_with fail
  refine C2.out.mono ?_
  rintro e w2 ⟨gb, rfl, hg1, hu2⟩
  have hs1 := hu1.size
  have hF0 : FG (· < w.heap.size) w2 gb (newG L) := hg1.mono (fun k hk => by show k < w1.heap.size; have : k < w.heap.size := hk; omega)
  have hU2 := hu1.then_non hu2
  have HP0 := Lib.hid (PInv.new HW.out)
  clear hg1 C1 C2 hV hA
  go_wp2_with fail
  go_loopg [7, 8, 9] 14 (fun g i _ _ wr => ∃ (k : Nat) (G1 : EG), Hid (g = 14 - k) ∧ k ≤ 14 ∧ i = .int .i64 k ∧ FG (· < w.heap.size) wr gb G1 ∧ Hid (PInv G1) ∧ 3 ≤ G1.L.length ∧ G1.L.length ≤ 17 + k ∧ G1.T.length ≤ k ∧ Upd Non w wr)
  case atStart => exact ⟨0, newG L, rfl, by omega, rfl, hF0, HP0, hpos, hlen, by simp [newG], hU2⟩
  case round =>
    obtain ⟨k, G1, Hg, hk, rfl, hF, HI, hL3, hL1, hT, hu⟩ := hrel
    by_cases hlt : k < ds.length ∧ k < 14
    · obtain ⟨hk1, hk2⟩ := hlt
      obtain ⟨db, dof, rfl, hdw, hdb, c0, c1, c2, c3, c4, c5, c6, VA, vc, MA, mc, c7, c8, _⟩ := (hd.upd hu (fun _ _ _ f => f)).at_ hk1
      have hdk := HDO.out _ (List.getElem_mem hk1)
      generalize ds[k] = d at *
      have i0 : (0 : Int) ≤ (k : Int) := by omega
      have i1 : (k : Int) < (ds.length : Int) := by omega
      obtain ⟨W, HWq⟩ := nm (wr.alloc (.cells #[.int .i64 d.what, .int .i64 d.a, .int .i64 d.b, .int .i64 d.op, .int .i64 d.s.l, .int .i64 d.s.r, .int .i64 d.s.why, .slice VA d.s.vars.length vc, .slice MA d.s.imms.length mc] 46))
      have uA : Upd Non wr W := by rw [← HWq.out]; exact Upd.refl.alloc _
      have bd : Blk W wr.heap.size 46 #[.int .i64 d.what, .int .i64 d.a, .int .i64 d.b, .int .i64 d.op, .int .i64 d.s.l, .int .i64 d.s.r, .int .i64 d.s.why, .slice VA d.s.vars.length vc, .slice MA d.s.imms.length mc] := by rw [← HWq.out]; exact Blk.new _ _ _
      have hFW := hF.non uA
      have hUW := hu.then_non uA
      have C3 := Lib.hid (fNodes_c W _ gb G1 hFW HI.out.wf)
      unfold gp at C3
      have HD := Lib.hid hdk
      clear hdk
      go_wp2_with fail
      rw [HWq.out]
      refine C3.out.mono ?_
      rintro e w3 ⟨A3, c3', rfl, _, _, hu3⟩
      have bd3 := bd.upd hu3 (fun f => f)
      have hF3 := hFW.non hu3
      have hU3 := hUW.then_non hu3
      have e0 := bd3.cell 0
      have e1 := bd3.cell 1
      have e2 := bd3.cell 2
      have e3 := bd3.cell 3
      have e4 := bd3.cell 4
      have e5 := bd3.cell 5
      have e6 := bd3.cell 6
      have e7 := bd3.cell 7
      have e8 := bd3.cell 8
      have CP := Lib.hid (fun (z m : Int) (W : World) (h : 0 < m) (h2 : m ≤ 4611686018427387904) => pick_c z m W h h2)
      obtain ⟨p3, Hp3⟩ := nm (d.what % 3)
      have C4 := Lib.hid (CP.out d.what 3 w3 (by omega) (by omega))
      rw [Hp3.out] at C4
      clear C3 c0 c1 c2 c3 c4 c5 c6 c7 c8
      by_cases hp3 : p3 = 0
      · subst hp3
        have C5 := Lib.hid (deedNode_c w3 d VA MA vc mc G1.L.length (by omega) HD.out)
        unfold deedVal at C5
        go_wp2_with fail
        refine C4.out.mono ?_
        rintro e w3' ⟨rfl, rfl⟩
        go_wp2_with fail
        refine C5.out.mono ?_
        rintro e w5 ⟨KB, kd, rfl, hoK, hKn, hu5⟩
        have hok5 := dNode_ok d (G1.L.length : Int)
        have hkl5 : (dNode d (G1.L.length : Int)).kids.length ≤ 100000000000 := by have := dArity d; rw [dNode_kids, dKids_len]; omega
        have C6 := Lib.hid (fAddNew_c w3 w5 _ gb G1 hF3 hu5 HI.out.wf (by omega) (dNode d (G1.L.length : Int)) KB kd hoK hKn hok5 hkl5)
        have HI6 := Lib.hid (HI.out.addI hok5)
        have hT6 := addG_T G1 (dNode d (G1.L.length : Int))
        obtain ⟨l6, l7⟩ := addG_L G1 (dNode d (G1.L.length : Int))
        unfold gp addRet at C6
        generalize dNode d (G1.L.length : Int) = nd at *
        clear hok5 hkl5 C5 C4
        go_wp2_with fail
        refine C6.out.mono ?_
        rintro e w6 ⟨rfl, hF6, hu6⟩
        have hU6 := (hU3.then_non hu5).out_trans hu6 (fun i hi => hi)
        go_wp2_with fail
        go_roundg (14 - (k + 1))
        case measure => rw [Hg.out]; omega
        case rel => exact ⟨k + 1, _, rfl, by omega, by go_num, hF6, HI6, by omega, by omega, by omega, hU6⟩
      · have hb3 : (p3 == 0) = false := by rw [beq_eq_false_iff_ne]; exact hp3
        have k1 := Int.emod_nonneg d.op (show (5 : Int) ≠ 0 by omega)
        have k2 := Int.emod_lt_of_pos d.op (show (0 : Int) < 5 by omega)
        obtain ⟨o5, Ho5⟩ := nm (d.op % 5)
        rw [Ho5.out] at k1 k2
        obtain ⟨a5, Ha5⟩ := nm (d.a % (G1.L.length : Int))
        obtain ⟨b5, Hb5⟩ := nm (d.b % (G1.L.length : Int))
        have hF3' := hF.grow (uA.then_non hu3)
        have hbl3 : wr.heap.size < w3.heap.size := bd3.lt
        have CU := Lib.hid (fUnion_c w3.drew _ gb G1 (hF3'.non Upd.refl.drew) HI.out.wf (by omega) ⟨a5, b5, 1 + o5, [], []⟩ none none 0 0 .nil .nil (by simp) (by simp))
        unfold gp stpV at CU
        dsimp only [List.length_nil] at CU
        have v0 : IntKind.i64.wrap (1 + o5) = 1 + o5 := IntWalk.i64_in _ (by omega)
        have mx : (1 : Int) < (G1.L.length : Int) := by omega
        have s1 : w3.drew.cell? ⟨wr.heap.size, 1, none⟩ = some (.int .i64 d.a) := e1
        have s2 : w3.drew.cell? ⟨wr.heap.size, 2, none⟩ = some (.int .i64 d.b) := e2
        have s3 : w3.drew.cell? ⟨wr.heap.size, 3, none⟩ = some (.int .i64 d.op) := e3
        have HI6 := Lib.hid (HI.out.uni ⟨a5, b5, 1 + o5, [], []⟩ ⟨rfl, rfl⟩)
        have hT6 := uniG_T G1 ⟨a5, b5, 1 + o5, [], []⟩
        have hL6 : (uniG G1 ⟨a5, b5, 1 + o5, [], []⟩).L.length = G1.L.length := by rw [uniG_L]
        have HL6 := Lib.hid hL6
        clear hp3 hL6
        go_wp2_with fail
        refine C4.out.mono ?_
        rintro e w3' ⟨rfl, rfl⟩
        go_wp2_with fail
        refine wp_region_held_drew (S := fun w' => w'.cell? ⟨wr.heap.size, 1, none⟩ = some (.int .i64 d.a) ∧ w'.cell? ⟨wr.heap.size, 2, none⟩ = some (.int .i64 d.b) ∧ w'.cell? ⟨wr.heap.size, 3, none⟩ = some (.int .i64 d.op)) (by kernel_rfl) ⟨s1, s2, s3⟩ (fun hHeld => ?_)
        refine wpAnyH_take (i := 0) (v := ?_) rfl (by kernel_rfl) (by kernel_rfl) (by kernel_rfl) (fun _ _ _ h => h) (Or.inl ⟨by rfl, ?_⟩) (by assumption) ?_
        rotate_left
        · intro w hSw; (try dsimp only at hSw); go_simp; try with_reducible rfl
        try simp only [put_y]
        try simp only [Act.put]
        try simp only [put_z]
        refine wpAnyH_take (i := 1) (v := ?_) rfl (by kernel_rfl) (by kernel_rfl) (by kernel_rfl) (fun _ _ _ h => h) (Or.inl ⟨by rfl, ?_⟩) (by assumption) ?_
        rotate_left
        · intro w hSw; (try dsimp only at hSw); go_simp; try with_reducible rfl
        try simp only [put_y]
        try simp only [Act.put]
        try simp only [put_z]
        refine wpAnyH_take (i := 2) (v := ?_) rfl (by kernel_rfl) (by kernel_rfl) (by kernel_rfl) (fun _ _ _ h => h) (Or.inl ⟨by rfl, ?_⟩) (by assumption) ?_
        rotate_left
        · intro w hSw; (try dsimp only at hSw); go_simp; try with_reducible rfl
        try simp only [put_y]
        try simp only [Act.put]
        try simp only [put_z]
        refine wpAnyH_take (i := 3) (v := ?_) rfl (by kernel_rfl) (by kernel_rfl) (by kernel_rfl) (fun _ _ _ h => h) (Or.inl ⟨by rfl, ?_⟩) (by assumption) ?_
        rotate_left
        · intro w hSw; (try dsimp only at hSw); go_simp; try with_reducible rfl
        try simp only [put_y]
        try simp only [Act.put]
        try simp only [put_z]
        refine wpAnyH_take (i := 4) (v := ?_) rfl (by kernel_rfl) (by kernel_rfl) (by kernel_rfl) (fun _ _ _ h => h) (Or.inl ⟨by rfl, ?_⟩) (by assumption) ?_
        rotate_left
        · intro w hSw; (try dsimp only at hSw); go_simp; try with_reducible rfl
        try simp only [put_y]
        try simp only [Act.put]
        try simp only [put_z]
        refine wpAnyH_takeC (i := 5) (v := ?v1) rfl (by kernel_rfl) (by kernel_rfl) (by kernel_rfl) (fun _ _ _ h => h) ⟨by rfl, ?f1, ?a1, ?r1, ?c1⟩ (by assumption) ?m1
        case r1 => intro w; go_simp; constructor <;> with_reducible rfl
        case c1 => intro W hSw; refine (CP.out d.a (G1.L.length : Int) W (by omega) (by omega)).mono ?_; rintro e w' ⟨rfl, rfl⟩; constructor <;> with_reducible rfl
        try simp only [put_y]
        try simp only [Act.put]
        try simp only [put_z]
        refine wpAnyH_take (i := 6) (v := ?_) rfl (by kernel_rfl) (by kernel_rfl) (by kernel_rfl) (fun _ _ _ h => h) (Or.inl ⟨by rfl, ?_⟩) (by assumption) ?_
        rotate_left
        · intro w hSw; (try dsimp only at hSw); go_simp; try with_reducible rfl
        try simp only [put_y]
        try simp only [Act.put]
        try simp only [put_z]
        refine wpAnyH_take (i := 7) (v := ?_) rfl (by kernel_rfl) (by kernel_rfl) (by kernel_rfl) (fun _ _ _ h => h) (Or.inl ⟨by rfl, ?_⟩) (by assumption) ?_
        rotate_left
        · intro w hSw; (try dsimp only at hSw); go_simp; try with_reducible rfl
        try simp only [put_y]
        try simp only [Act.put]
        try simp only [put_z]
        refine wpAnyH_take (i := 8) (v := ?_) rfl (by kernel_rfl) (by kernel_rfl) (by kernel_rfl) (fun _ _ _ h => h) (Or.inl ⟨by rfl, ?_⟩) (by assumption) ?_
        rotate_left
        · intro w hSw; (try dsimp only at hSw); go_simp; try with_reducible rfl
        try simp only [put_y]
        try simp only [Act.put]
        try simp only [put_z]
        refine wpAnyH_take (i := 9) (v := ?_) rfl (by kernel_rfl) (by kernel_rfl) (by kernel_rfl) (fun _ _ _ h => h) (Or.inl ⟨by rfl, ?_⟩) (by assumption) ?_
        rotate_left
        · intro w hSw; (try dsimp only at hSw); go_simp; try with_reducible rfl
        try simp only [put_y]
        try simp only [Act.put]
        try simp only [put_z]
        refine wpAnyH_takeC (i := 10) (v := ?v2) rfl (by kernel_rfl) (by kernel_rfl) (by kernel_rfl) (fun _ _ _ h => h) ⟨by rfl, ?f2, ?a2, ?r2, ?c2⟩ (by assumption) ?m2
        case r2 => intro w; go_simp; constructor <;> with_reducible rfl
        case c2 => intro W hSw; refine (CP.out d.b (G1.L.length : Int) W (by omega) (by omega)).mono ?_; rintro e w' ⟨rfl, rfl⟩; constructor <;> with_reducible rfl
        try simp only [put_y]
        try simp only [Act.put]
        try simp only [put_z]
        refine wpAnyH_take (i := 11) (v := ?_) rfl (by kernel_rfl) (by kernel_rfl) (by kernel_rfl) (fun _ _ _ h => h) (Or.inl ⟨by rfl, ?_⟩) (by assumption) ?_
        rotate_left
        · intro w hSw; (try dsimp only at hSw); go_simp; try with_reducible rfl
        try simp only [put_y]
        try simp only [Act.put]
        try simp only [put_z]
        refine wpAnyH_take (i := 12) (v := ?_) rfl (by kernel_rfl) (by kernel_rfl) (by kernel_rfl) (fun _ _ _ h => h) (Or.inl ⟨by rfl, ?_⟩) (by assumption) ?_
        rotate_left
        · intro w hSw; (try dsimp only at hSw); go_simp; try with_reducible rfl
        try simp only [put_y]
        try simp only [Act.put]
        try simp only [put_z]
        refine wpAnyH_takeC (i := 13) (v := ?v3) rfl (by kernel_rfl) (by kernel_rfl) (by kernel_rfl) (fun _ _ _ h => h) ⟨by rfl, ?f3, ?a3, ?r3, ?c3⟩ (by assumption) ?m3
        case r3 => intro w; go_simp; constructor <;> with_reducible rfl
        case c3 => intro W hSw; refine (CP.out d.op 5 W (by omega) (by omega)).mono ?_; rintro e w' ⟨rfl, rfl⟩; constructor <;> with_reducible rfl
        try simp only [put_y]
        try simp only [Act.put]
        try simp only [put_z]
        rw [Ha5.out, Hb5.out, Ho5.out]
        refine wpAnyH_take (i := 14) (v := ?_) rfl (by kernel_rfl) (by kernel_rfl) (by kernel_rfl) (fun _ _ _ h => h) (Or.inl ⟨by rfl, ?_⟩) (by assumption) ?_
        rotate_left
        · intro w hSw; (try dsimp only at hSw); go_simp; try with_reducible rfl
        try simp only [put_y]
        try simp only [Act.put]
        try simp only [put_z]
        refine wpAnyH_take (i := 15) (v := ?_) rfl (by kernel_rfl) (by kernel_rfl) (by kernel_rfl) (fun _ _ _ h => h) (Or.inl ⟨by rfl, ?_⟩) (by assumption) ?_
        rotate_left
        · intro w hSw; (try dsimp only at hSw); go_simp; try with_reducible rfl
        try simp only [put_y]
        try simp only [Act.put]
        try simp only [put_z]
        refine wpAnyH_ready (rs := [16]) (by kernel_rfl) (by simp) ?_
        refine AllReadyH.cons rfl (fun K hK => ?_) AllReadyH.nil
        go_simp
        refine CU.out.mono ?_
        rintro e w6 ⟨rfl, hF6, hu6'⟩
        have hu6 : Upd (Out (fun k => k < w.heap.size ∨ (wr.heap.size ≤ k ∧ k < w3.heap.size))) w3 w6 := (Upd.refl.drew (S := Out (fun k => k < w.heap.size ∨ (wr.heap.size ≤ k ∧ k < w3.heap.size)))).trans hu6' (fun _ _ h => h)
        have hU6 := hU3.out_trans hu6 (fun i hi => .inl hi)
        have hF6 : FG (· < w.heap.size) w6 gb (uniG G1 ⟨a5, b5, 1 + o5, [], []⟩) := hF6.mono (fun k hk => .inl hk)
        have hnb : ¬ Out (fun k => k < w.heap.size ∨ (wr.heap.size ≤ k ∧ k < w3.heap.size)) wr.heap.size := fun h => h (.inr ⟨Nat.le_refl _, hbl3⟩)
        have u1 : w6.cell? ⟨wr.heap.size, 1, none⟩ = some (.int .i64 d.a) := cell_upd (show w3.cell? ⟨wr.heap.size, 1, none⟩ = some (.int .i64 d.a) from e1) hu6 hnb
        have u2 : w6.cell? ⟨wr.heap.size, 2, none⟩ = some (.int .i64 d.b) := cell_upd (show w3.cell? ⟨wr.heap.size, 2, none⟩ = some (.int .i64 d.b) from e2) hu6 hnb
        have u3 : w6.cell? ⟨wr.heap.size, 3, none⟩ = some (.int .i64 d.op) := cell_upd (show w3.cell? ⟨wr.heap.size, 3, none⟩ = some (.int .i64 d.op) from e3) hu6 hnb
        clear mx v0
        go_wp2_with fail
        refine hK.out _ _ ?_ (fun hHeld => ?_)
        · exact ⟨u1, u2, u3⟩
        clear hK K
        try simp only [put_y]
        try simp only [Act.put]
        try simp only [put_z]
        refine wpAnyH_done (by kernel_rfl) ?_ _
        go_wp2_with fail
        go_roundg (14 - (k + 1))
        case measure => rw [Hg.out]; omega
        case rel => exact ⟨k + 1, _, rfl, by omega, by go_num, hF6, HI6, by rw [HL6.out]; omega, by rw [HL6.out]; omega, by omega, hU6⟩
    · go_upto_region 5 with fail
      go_cut [36] (fun s wx => s = .bool false ∧ wr = wx)
      case first =>
        by_cases h1 : k < ds.length
        · obtain rfl : k = 14 := by omega
          go_wp2_with fail
          go_meet
          exact ⟨rfl, rfl⟩
        · go_wp2_with fail
          go_meet
          exact ⟨rfl, rfl⟩
      case rest =>
        obtain ⟨rfl, rfl⟩ := hcut
        have C3 := Lib.hid (fRebuild_c wr _ gb G1 hF HI.out.wf (by omega))
        unfold gp at C3
        clear hlt Hg
        obtain ⟨w3, e3⟩ : ∃ w3 : World, w3 = wr := ⟨_, rfl⟩
        subst e3
        go_wp2_with fail
        refine C3.out.mono ?_
        rintro e w4 ⟨nr, G2, hr, hnr, rfl, hF4, hu4⟩
        obtain ⟨hI2, hr2⟩ := PInv.rebuilt hr HI.out
        have hLe : G2.L.length = G1.L.length := by rw [hr.L_]
        have hTe := hr.T_
        have hCl := hI2.isCl hr2
        have HI2 := Lib.hid hI2
        have HR2 := Lib.hid hr2
        have HCl := Lib.hid hCl
        have hU4 := hu.out_trans hu4 (fun i hi => hi)
        have hn2 : 3 ≤ G2.L.length ∧ G2.L.length ≤ 31 := by omega
        have ht2 : G2.T.length ≤ 3000 := by omega
        have C5 := Lib.hid (fNodes_c w4 _ gb G2 hF4 HI2.out.wf)
        unfold gp at C5
        clear hr hI2 hr2 hCl C3 hLe hTe
        go_wp2_with fail
        refine C5.out.mono ?_
        rintro e w5 ⟨A5, c5, rfl, hno5, hA5, hu5⟩
        have hX5 := hno5.view (F := fun _ => True) (fun _ _ => trivial) (fun _ _ _ => trivial)
        have hF5 := hF4.non hu5
        have C6 := Lib.hid (fSteps_c w5 _ gb G2 hF5 (by omega) (fun s hs => by have := HI2.out.nov s hs; simp [this.1, this.2]))
        unfold gp at C6
        clear C5 hno5 hA5
        go_wp2_with fail
        refine C6.out.mono ?_
        rintro e w6 ⟨A6, c6, rfl, hT6, hu6⟩
        have hF6 := hF5.non hu6
        have hX6 := hX5.upd hu6 (fun _ _ _ f => f)
        have hU6 := (hU4.then_non hu5).then_non hu6
        clear C6 hX5 hF5 hF4
        go_wp2_with fail
        go_loopg [12, 14, 80] G2.T.length (fun g v _ i wx => ∃ (q c : Nat) (A : Option Addr), Hid (g = G2.T.length - q) ∧ q ≤ G2.T.length ∧ i = .int .i64 q ∧ v = .slice A q c ∧ Own wx 66 2 A q c (pcells (prs (G2.T.take q))) ∧ Hid (∀ j, At A j → w6.heap.size ≤ j) ∧ Upd Non w6 wx)
        case atStart => exact ⟨0, 0, none, rfl, by omega, rfl, rfl, Own.none_, fun j hj => (At.none_ hj).elim, Upd.refl⟩
        case round =>
          obtain ⟨q, c, A, Hg, hq, rfl, rfl, ho, HA, hu⟩ := hrel
          by_cases hqt : q < G2.T.length
          · obtain ⟨tb, tof, rfl, _, htb, t1, t2, t3, VA, vc, MA, mc, t4, t5, _⟩ := (hT6.upd hu (fun _ _ _ f => f)).at_ hqt
            have HTk : Hid (prs (G2.T.take (q + 1)) = prs (G2.T.take q) ++ [(G2.T[q].l, G2.T[q].r)]) := by show _ = _; unfold prs; rw [List.take_succ_eq_append_getElem hqt, List.map_append]; rfl
            generalize G2.T[q] = s at *
            have hwr := hu.size
            have uA : Upd Non wr (wr.alloc (.cells #[.int .i64 s.l, .int .i64 s.r, .int .i64 s.why, .slice VA s.vars.length vc, .slice MA s.imms.length mc] 34)) := Upd.refl.alloc _
            have hoA := ho.upd uA (fun _ _ f => f)
            go_wp2_with (at_builtin; refine wpList_app rfl rfl T_pairs rfl (hoA.alloc _) rfl (Sl.new2 _ _ _ _) rfl (by simp [Value.oneCell']) (by simp only [maxLen]; omega) (by omega) ?_; intro A3 c3 w3 ho3 hu3 hat3)
            go_roundg (G2.T.length - (q + 1))
            case measure => rw [Hg.out]; omega
            case rel =>
              refine ⟨q + 1, c3, A3, rfl, by omega, by go_num, rfl, by rw [HTk.out, pcells_snoc]; exact ho3, fun j hj => ?_, ((hu.then_non uA).alloc _).trans hu3 (fun i hi h => by have := HA.out i h; omega)⟩
              rcases hat3 j hj with h | h
              · exact HA.out j h
              · simp at h; omega
          · obtain rfl : G2.T.length = q := by omega
            rw [List.take_length] at ho
            have hPV := (Own.pairs ho).mono (G := fun _ => True) (fun _ _ _ => trivial)
            have hpl : (prs G2.T).length = G2.T.length := by simp [prs]
            have C7 := Lib.hid (classes_c wr (fun _ => True) A5 A c5 c G2.L (prs G2.T) (hX6.upd hu (fun _ _ _ f => f)) hPV (by omega) (by omega) HI2.out.wf.wf.ok)
            rw [hpl] at C7
            have hF7 := hF6.non hu
            clear hpl
            obtain ⟨w7, e7⟩ : ∃ w7 : World, w7 = wr := ⟨_, rfl⟩
            subst e7
            go_wp2_with fail
            refine C7.out.mono ?_
            rintro e w8 ⟨cf, A8, c8, hcl, rfl, _, hi8, hu8⟩
            have hsame : clL G2.L cf = clL G2.L G2.c := hcl.same HCl.out
            rw [show (List.range G2.L.length).map (fun i => (cf i : Int)) = clL G2.L G2.c from hsame] at hi8
            have hF8 := hF7.grow hu8
            have C9 := Lib.hid (fRebuild_c w8 _ gb G2 hF8 HI2.out.wf (by omega))
            unfold gp at C9
            have t1 : ((G2.L.length : Int) != (G2.L.length : Int)) = false := by simp
            have hU8 := (hU6.then_non hu).then_non hu8
            clear C7 hcl hsame
            go_wp2_with fail
            refine C9.out.mono ?_
            rintro e w9 ⟨n9, G9, hr9, _, rfl, hF9, hu9⟩
            obtain ⟨rfl, rfl⟩ := reb_zero hr9 HR2.out
            have hi9 := hi8.upd hu9 (fun k hk h ho => ho (.inr ⟨h, hk⟩))
            have hU9 := hU8.out_trans hu9 (fun i hi => .inl hi)
            obtain ⟨fb, fo, rfl, _, hfb, hfc⟩ := clL_at hi9 (by omega)
            clear C9 hr9 hi8
            go_wp2_with fail
            go_loopg [16, 108] G9.L.length (fun g _ i wx => ∃ q n : Nat, Hid (g = G9.L.length - q) ∧ q ≤ G9.L.length ∧ i = .int .i64 q ∧ wx = w9.drewN n)
            case atStart => exact ⟨0, 0, rfl, by omega, rfl, rfl⟩
            case round =>
              obtain ⟨q, n, Hg, hq, rfl, rfl⟩ := hrel
              by_cases hqt : q < G9.L.length
              · have hfq := hfc q hqt
                have HF : Hid (findF G9 (q : Int) = (G9.c q : Int)) := by show _ = _; unfold findF; rw [if_pos ⟨by omega, by omega⟩]; simp
                have CX := Lib.hid (fun (w2 : World) (u : Upd Non w9 w2) => fFind_c w2 _ gb G9 (hF9.non u) (q : Int))
                unfold gp at CX
                have i0 : (0 : Int) ≤ (q : Int) := by omega
                have i1 : (q : Int) < (G9.L.length : Int) := by omega
                have s1 : (w9.drewN n).drew.cell? ⟨fb, fo + q, none⟩ = some (.int .i64 (G9.c q : Int)) := hfq
                have s5 : Upd Non w9 (w9.drewN n).drew := (Upd.refl.drewN n).drew
                obtain ⟨z, Hz⟩ := nm (G9.c q)
                rw [Hz.out] at HF s1
                have t2 : ((z : Int) != (z : Int)) = false := by simp
                clear hfc
                go_wp2_with fail
                refine wp_region_held_drew (S := fun w' => Upd Non w9 w' ∧ w'.cell? ⟨fb, fo + q, none⟩ = some (.int .i64 (z : Int))) (by kernel_rfl) ⟨s5, s1⟩ (fun hHeld => ?_)
                refine wpAnyH_take (i := 0) (v := ?_) rfl (by kernel_rfl) (by kernel_rfl) (by kernel_rfl) (fun _ _ _ h => h) (Or.inl ⟨by rfl, ?_⟩) (by assumption) ?_
                rotate_left
                · intro w hSw; (try dsimp only at hSw); go_simp; try with_reducible rfl
                try simp only [put_y]
                try simp only [Act.put]
                try simp only [put_z]
                refine wpAnyH_take (i := 1) (v := ?_) rfl (by kernel_rfl) (by kernel_rfl) (by kernel_rfl) (fun _ _ _ h => h) (Or.inl ⟨by rfl, ?_⟩) (by assumption) ?_
                rotate_left
                · intro w hSw; (try dsimp only at hSw); go_simp; try with_reducible rfl
                try simp only [put_y]
                try simp only [Act.put]
                try simp only [put_z]
                refine wpAnyH_takeC (i := 2) (v := ?v4) rfl (by kernel_rfl) (by kernel_rfl) (by kernel_rfl) (fun _ _ _ h => h) ⟨by rfl, ?f4, ?a4, ?r4, ?c4⟩ (by assumption) ?m4
                case r4 => intro w; go_simp; constructor <;> with_reducible rfl
                case c4 => intro W hSw; refine (CX.out W hSw.1).mono ?_; rintro e w' ⟨rfl, rfl⟩; constructor <;> with_reducible rfl
                try simp only [put_y]
                try simp only [Act.put]
                try simp only [put_z]
                refine wpAnyH_take (i := 3) (v := ?_) rfl (by kernel_rfl) (by kernel_rfl) (by kernel_rfl) (fun _ _ _ h => h) (Or.inl ⟨by rfl, ?_⟩) (by assumption) ?_
                rotate_left
                · intro w hSw; (try dsimp only at hSw); go_simp; try with_reducible rfl
                try simp only [put_y]
                try simp only [Act.put]
                try simp only [put_z]
                refine wpAnyH_take (i := 4) (v := ?_) rfl (by kernel_rfl) (by kernel_rfl) (by kernel_rfl) (fun _ _ _ h => h) (Or.inl ⟨by rfl, ?_⟩) (by assumption) ?_
                rotate_left
                · intro w hSw; (try dsimp only at hSw); go_simp; try with_reducible rfl
                try simp only [put_y]
                try simp only [Act.put]
                try simp only [put_z]
                refine wpAnyH_take (i := 5) (v := ?_) rfl (by kernel_rfl) (by kernel_rfl) (by kernel_rfl) (fun _ _ _ h => h) (Or.inl ⟨by rfl, ?_⟩) (by assumption) ?_
                rotate_left
                · intro w hSw; (try dsimp only at hSw); go_simp; try with_reducible rfl
                try simp only [put_y]
                try simp only [Act.put]
                try simp only [put_z]
                refine wpAnyH_take (i := 6) (v := ?_) rfl (by kernel_rfl) (by kernel_rfl) (by kernel_rfl) (fun _ _ _ h => h) (Or.inl ⟨by rfl, ?_⟩) (by assumption) ?_
                rotate_left
                · intro w hSw; (try dsimp only at hSw); go_simp; try with_reducible rfl
                try simp only [put_y]
                try simp only [Act.put]
                try simp only [put_z]
                rw [HF.out]
                refine wpAnyH_take (i := 7) (v := ?_) rfl (by kernel_rfl) (by kernel_rfl) (by kernel_rfl) (fun _ _ _ h => h) (Or.inl ⟨by rfl, ?_⟩) (by assumption) ?_
                rotate_left
                · intro w hSw; (try dsimp only at hSw); go_simp; try with_reducible rfl
                try simp only [put_y]
                try simp only [Act.put]
                try simp only [put_z]
                refine wpAnyH_done (by kernel_rfl) ?_ _
                go_wp2_with fail
                go_roundg (G9.L.length - (q + 1))
                case measure => rw [Hg.out]; omega
                case rel => exact ⟨q + 1, n + 1, rfl, by omega, by go_num, rfl⟩
              · obtain rfl : G9.L.length = q := by omega
                go_wp2_with fail
                refine (eExamples_c _).mono ?_
                rintro e wz ⟨rfl, huz⟩
                go_wp2_with fail
                go_ret
                exact ⟨rfl, (hU9.drewN n).then_non huz⟩
end Go.Proofs.Ytigambcefdeaoaa
