/-
  What exists, Find, canonicalKey of an e-graph do, and cloneNode, cloneStep.
  What cloneNode and cloneStep of package egraph do.
  What Nodes and Steps of an e-graph do: they copy the nodes, the steps.
  What Steps of an e-graph does: it copies the steps.
-/
import Derived.Test.YtigambcefdeaoaaGMem
namespace Go.Proofs.Ytigambcefdeaoaa
open Go.RowKit

def gp (gb : Nat) : Value := .pointer (some ⟨gb, 0, none⟩)
section
variable {w : World} {ρ : Nat → Role} {gb : Nat} {a : GA} {G : EG}
theorem GM.c0 (h : GM w ρ gb a G) : w.cell? ⟨gb, 0, none⟩ = some (.slice a.l G.L.length a.lc) := h.blk.cell 0
theorem GM.c1 (h : GM w ρ gb a G) : w.cell? ⟨gb, 1, none⟩ = some (.slice a.s G.L.length a.sc) := h.blk.cell 1
theorem GM.c2 (h : GM w ρ gb a G) : w.cell? ⟨gb, 2, none⟩ = some (.slice a.f G.L.length a.fc) := h.blk.cell 2
theorem GM.c3 (h : GM w ρ gb a G) : w.cell? ⟨gb, 3, none⟩ = some (.slice a.m G.L.length a.mc) := h.blk.cell 3
theorem GM.c4 (h : GM w ρ gb a G) : w.cell? ⟨gb, 4, none⟩ = some (.map (some a.o)) := h.blk.cell 4
theorem GM.c5 (h : GM w ρ gb a G) : w.cell? ⟨gb, 5, none⟩ = some (.map (some a.x)) := h.blk.cell 5
theorem GM.c6 (h : GM w ρ gb a G) : w.cell? ⟨gb, 6, none⟩ = some (.slice a.t G.T.length a.tc) := h.blk.cell 6
theorem GM.fv (h : GM w ρ gb a G) : Ints w (fun k => ρ k = .find) a.f (clL G.L G.c) := h.f.1.ints.mono (fun k _ hk => h.f.2 k hk)
theorem GM.fat (h : GM w ρ gb a G) {i : Nat} (hi : i < G.L.length) : ∃ b, a.f = some ⟨b, 0, none⟩ ∧ b < w.heap.size ∧ w.cell? ⟨b, i, none⟩ = some (.int .i64 (G.c i : Int)) := by
  have hl : (clL G.L G.c).length = G.L.length := clL_len _ _
  obtain ⟨b, e⟩ := h.f.1.some_ (by omega)
  have hf := h.f.1
  rw [e] at hf
  have hi' : i < (icells (clL G.L G.c)).length := by simp [icells, clL]; omega
  have hc := hf.cell_ hi'
  refine ⟨b, e, World.block_lt_of_cell? _ _ hc, ?_⟩
  rw [hc]
  simp [icells, clL]
end

def findF (G : EG) (i : Int) : Int := if 0 ≤ i ∧ i < G.L.length then (G.c i.toNat : Int) else -1

set_option maxHeartbeats 400000 in
theorem gExists_c (w : World) (ρ : Nat → Role) (gb : Nat) (a : GA) (G : EG) (h : GM w ρ gb a G) (i : Int) :
    Calls Try.prog 37 #[gp gb, .int .i64 i] w fun e w' => e = .returned (.bool (decide (0 ≤ i ∧ i < G.L.length))) ∧ w = w' := by
  have c0 := h.c0
  generalize G.L.length = n at *
  unfold gp
  clear h
  go_enter Try.func37, Try.ntmps37
  go_wp2_with fail
  all_goals
    go_ret
    refine ⟨?_, rfl⟩
    simp
    try omega

set_option maxHeartbeats 400000 in
theorem gFind_c (w : World) (ρ : Nat → Role) (gb : Nat) (a : GA) (G : EG) (h : GM w ρ gb a G) (i : Int) :
    Calls Try.prog 12 #[gp gb, .int .i64 i] w fun e w' => e = .returned (.int .i64 (findF G i)) ∧ w = w' := by
  have C1 := Lib.hid (gExists_c w ρ gb a G h i)
  unfold gp at *
  by_cases hi : 0 ≤ i ∧ i < G.L.length
  · have HF : Hid (findF G i = (G.c i.toNat : Int)) := by show _ = _; unfold findF; rw [if_pos hi]
    obtain ⟨k, rfl⟩ := Int.eq_ofNat_of_zero_le hi.1
    have hk : k < G.L.length := by omega
    simp only [hi] at C1
    obtain ⟨b, e, hb, hc⟩ := h.fat hk
    have c2 := h.c2
    rw [e] at c2
    rw [Int.toNat_natCast] at HF
    generalize G.c k = x at *
    clear hi h
    go_enter Try.func12, Try.ntmps12
    go_wp2_with fail
    refine C1.out.mono ?_
    rintro e w' ⟨rfl, rfl⟩
    go_wp2_with fail
    go_ret
    exact ⟨by rw [HF.out]; rfl, rfl⟩
  · have HF : Hid (findF G i = -1) := by show _ = _; unfold findF; rw [if_neg hi]
    simp only [hi, decide_false] at C1
    clear hi h
    go_enter Try.func12, Try.ntmps12
    go_wp2_with fail
    refine C1.out.mono ?_
    rintro e w' ⟨rfl, rfl⟩
    go_wp2_with fail
    go_ret
    exact ⟨by rw [HF.out]; rfl, rfl⟩

def ckids (c : Nat → Nat) (kids : List Int) : List Int := kids.map fun x => (c x.toNat : Int)
theorem ckids_snoc (c : Nat → Nat) (kids : List Int) (k : Nat) (h : k < kids.length) : ckids c (kids.take (k + 1)) = ckids c (kids.take k) ++ [(c kids[k].toNat : Int)] := by
  unfold ckids; rw [List.take_succ_eq_append_getElem h, List.map_append]; rfl

set_option maxRecDepth 100000 in
set_option maxHeartbeats 1000000 in
theorem canonKey_c (w : World) (ρ : Nat → Role) (gb : Nat) (a : GA) (G : EG) (h : GM w ρ gb a G) (op imm : Int) (kids : List Int) (KA : Option Addr) (kc : Nat) (F : Nat → Prop) (hk : Ints w F KA kids) (hn : kids.length ≤ 100000000000) (hok : okKids G.L.length kids = true) :
    Calls Try.prog 48 #[gp gb, .agg #[.int .i64 op, .int .i64 imm, .slice KA kids.length kc]] w fun e w' => e = .returned (.string (keyE op imm (ckids G.c kids))) ∧ Upd Non w w' := by
  have HOK := Lib.hid hok
  have hk0 := hk.mono (G := (· < w.heap.size)) (fun k hk _ => hk)
  have H := Lib.hid h
  clear hk hok h
  unfold gp
  go_enter Try.func48, Try.ntmps48
  go_wp2_with fail
  go_loopg [5, 7, 11] kids.length (fun g v _ i wr => ∃ (j c2 : Nat) (A2 : Option Addr), Hid (g = kids.length - j) ∧ j ≤ kids.length ∧ i = .int .i64 j ∧ v = .slice A2 j c2 ∧ Own wr 3 1 A2 j c2 (icells (ckids G.c (kids.take j))) ∧ Hid (∀ b, At A2 b → w.heap.size < b) ∧ Upd Non w wr ∧
    Blk wr w.heap.size 24 #[.int .i64 op, .int .i64 imm, .slice KA kids.length kc])
  case atStart => exact ⟨0, 0, none, rfl, by omega, rfl, rfl, Own.none_, fun j hj => (At.none_ hj).elim, Upd.refl.alloc _, Blk.new _ _ _⟩
  case round =>
    obtain ⟨j, c2, A2, Hg, hj, rfl, rfl, ho, HA, hu, hb⟩ := hrel
    have hM := H.out.non hu
    by_cases hlt : j < kids.length
    · obtain ⟨kb, ko, rfl, _, hkb, hck⟩ := (hk0.upd hu (fun _ _ _ f => f)).at_ hlt
      have HS := Lib.hid (ckids_snoc G.c kids j hlt)
      obtain ⟨q0, q1⟩ := okKids_get HOK.out hlt
      obtain ⟨q, hq⟩ := Int.eq_ofNat_of_zero_le q0
      rw [hq] at hck HS q1
      clear q0 hq
      have hqn : q < G.L.length := by omega
      obtain ⟨fb, ef, hfb, hcf⟩ := hM.fat hqn
      have cf := hM.c2
      rw [ef] at cf
      simp only [Int.toNat_natCast] at HS
      generalize G.c q = x at *
      have hgb := hM.blk.lt
      have hgne : gb ≠ w.heap.size := by have := H.out.blk.lt; omega
      generalize G.L.length = n at *
      clear hM
      go_wp2_with (at_builtin; refine wpList_app rfl rfl T_ints' rfl (ho.alloc _) rfl (Sl.new _ _ _) rfl (by simp [Value.oneCell']) (by simp only [maxLen]; omega) (by omega) ?_; intro A3 c3 w3 ho3 hu3 hat3)
      have hb3 := (hb.alloc (.cells #[Value.int .i64 (x : Int)] 3)).upd hu3 (fun h => by have := HA.out _ h; omega)
      go_roundg (kids.length - (j + 1))
      case measure => rw [Hg.out]; omega
      case rel =>
        refine ⟨j + 1, c3, A3, rfl, by omega, by go_num, rfl, by rw [HS.out, icells_snoc]; exact ho3, fun b hb' => ?_, (hu.alloc _).trans hu3 (fun i hi h => by have := HA.out i h; omega), hb3⟩
        rcases hat3 b hb' with h | h
        · exact HA.out b h
        · have := hb.lt; simp at h; omega
    · obtain rfl : kids.length = j := by omega
      rw [List.take_length] at ho
      have hl : (ckids G.c kids).length = kids.length := by simp [ckids]
      have C1 := Lib.hid (gKey_c wr op imm KA A2 kids.length kc c2 (ckids G.c kids) (At A2) ho.ints (by omega))
      rw [hl] at C1
      have cb0 := hb.cell 0
      have cb1 := hb.cell 1
      have cb2 := hb.cell 2
      go_wp2_with fail
      refine C1.out.mono ?_
      rintro e w1 ⟨rfl, hu1⟩
      go_wp2_with fail
      go_ret
      exact ⟨rfl, hu.then_non hu1⟩
end Go.Proofs.Ytigambcefdeaoaa

namespace Go.Proofs.Ytigambcefdeaoaa
open Go.RowKit

theorem icells_one (xs : List Int) : ∀ u ∈ icells xs, u.oneCell' = true := by
  intro u hu
  obtain ⟨x, _, rfl⟩ := List.mem_map.1 hu
  rfl

set_option maxHeartbeats 1000000 in
theorem cloneNode_c (w : World) (op imm : Int) (kids : List Int) (KA : Option Addr) (kc : Nat) (F : Nat → Prop) (hk : Ints w F KA kids) (hn : kids.length ≤ 100000000000) :
    Calls Try.prog 47 #[.agg #[.int .i64 op, .int .i64 imm, .slice KA kids.length kc]] w fun e w' => ∃ KB kd, e = .returned (.agg #[.int .i64 op, .int .i64 imm, .slice KB kids.length kd]) ∧ Own w' 3 1 KB kids.length kd (icells kids) ∧ (∀ k, At KB k → w.heap.size ≤ k) ∧ Upd Non w w' := by
  have hk0 := hk.mono (G := (· < w.heap.size)) (fun k hk _ => hk)
  clear hk
  obtain ⟨W, HW⟩ := nm ((w.alloc (.cells #[.int .i64 op, .int .i64 imm, .slice KA kids.length kc] 24)).alloc (.cells #[.int .i64 0, .int .i64 0, .slice none 0 0] 24))
  have hk2 : Ints W (· < w.heap.size) KA kids := by rw [← HW.out]; exact hk0.upd ((Upd.refl.alloc _ (S := Non)).alloc _) (fun _ _ _ f => f)
  have hn1 : Blk W w.heap.size 24 #[.int .i64 op, .int .i64 imm, .slice KA kids.length kc] := by rw [← HW.out]; exact (Blk.new w _ _).alloc _
  have hn2 : Blk W (w.heap.size + 1) 24 #[.int .i64 0, .int .i64 0, .slice none 0 0] := by rw [← HW.out]; exact Blk.new' (by simp)
  have hU : Upd Non w W := by rw [← HW.out]; exact (Upd.refl.alloc _).alloc _
  have hsz : W.heap.size = w.heap.size + 1 + 1 := by rw [← HW.out]; simp
  have e0 := HW.out
  have d0 := hn1.cell 0
  have d1 := hn1.cell 1
  have d2 := hn1.cell 2
  go_enter Try.func47, Try.ntmps47
  go_wp2_with (at_builtin; refine wpList_app rfl rfl T_ints' rfl Own.none_ rfl hk2 (by simp) (icells_one kids) (by simp only [maxLen]; omega) (by omega) ?_; intro A2 c2 w2 ho2 hu2 hat2; have m1 := hn1.upd hu2 At.none_; have m2 := hn2.upd hu2 At.none_; have q0 := m1.cell 0; have q1 := m1.cell 1; have q2 := m1.cell 2; have f2 := m1.frozen 2; have r0 := m2.frozen 0; have r1 := m2.frozen 1; have r2 := m2.frozen 2; have s0 := m2.cell 0; have s1 := m2.cell 1; have s2 := m2.cell 2)
  have hA : ∀ k, At A2 k → w.heap.size + 1 < k := fun k hk => by
    rcases hat2 k hk with h | h
    · exact (At.none_ h).elim
    · omega
  have hx : Blk ((((w2.setCell ⟨w.heap.size, 2, none⟩ (.slice A2 kids.length c2)).setCell ⟨w.heap.size + 1, 0, none⟩ (.int .i64 op)).setCell ⟨w.heap.size + 1, 1, none⟩ (.int .i64 imm)).setCell ⟨w.heap.size + 1, 2, none⟩ (.slice A2 kids.length c2)) (w.heap.size + 1) 24 #[.int .i64 op, .int .i64 imm, .slice A2 kids.length c2] := by
    have := (((m2.far (p := ⟨w.heap.size, 2, none⟩) (by show w.heap.size + 1 ≠ w.heap.size; omega) (.slice A2 kids.length c2)).set_ 0 (.int .i64 op)).set_ 1 (.int .i64 imm)).set_ 2 (.slice A2 kids.length c2)
    simpa using this
  have hU2 : Upd (fun k => k = w.heap.size ∨ k = w.heap.size + 1) w2 ((((w2.setCell ⟨w.heap.size, 2, none⟩ (.slice A2 kids.length c2)).setCell ⟨w.heap.size + 1, 0, none⟩ (.int .i64 op)).setCell ⟨w.heap.size + 1, 1, none⟩ (.int .i64 imm)).setCell ⟨w.heap.size + 1, 2, none⟩ (.slice A2 kids.length c2)) :=
    (((Upd.refl.setCell (p := ⟨w.heap.size, 2, none⟩) (.inl (.inl rfl)) _).setCell (p := ⟨w.heap.size + 1, 0, none⟩) (.inl (.inr rfl)) _).setCell (p := ⟨w.heap.size + 1, 1, none⟩) (.inl (.inr rfl)) _).setCell (p := ⟨w.heap.size + 1, 2, none⟩) (.inl (.inr rfl)) _
  refine bodyPost_ret (results_cell_row rfl _ _ (w.heap.size + 1) 24 #[.int .i64 op, .int .i64 imm, .slice A2 kids.length c2] (0, 0) _ rfl hx Try.underlying24 rfl (by kernel_rfl)) rfl ?_
  refine ⟨A2, c2, rfl, ?_, fun k hk => by have := hA k hk; omega, ?_⟩
  · rw [Nat.zero_add, List.nil_append] at ho2
    exact ho2.upd hU2 (fun k hk h => by have := hA k hk; omega)
  · exact (hU.trans hu2 (fun i _ h => (At.none_ h).elim)).trans hU2 (fun i hi h => by omega)

set_option maxHeartbeats 2000000 in
theorem cloneStep_c (w : World) (s : Stp) (VA MA : Option Addr) (vc mc : Nat) (F : Nat → Prop) (hv : Ints w F VA s.vars) (hm : Ints w F MA s.imms) (hn : s.vars.length ≤ 100000000000) (hn2 : s.imms.length ≤ 100000000000) :
    Calls Try.prog 40 #[.agg #[.int .i64 s.l, .int .i64 s.r, .int .i64 s.why, .slice VA s.vars.length vc, .slice MA s.imms.length mc]] w fun e w' =>
      ∃ VB vd MB md, e = .returned (.agg #[.int .i64 s.l, .int .i64 s.r, .int .i64 s.why, .slice VB s.vars.length vd, .slice MB s.imms.length md]) ∧ Ints w' (w.heap.size ≤ ·) VB s.vars ∧ Ints w' (w.heap.size ≤ ·) MB s.imms ∧ s.vars.length ≤ vd ∧ s.imms.length ≤ md ∧ Upd Non w w' := by
  have hv0 := hv.mono (G := (· < w.heap.size)) (fun k hk _ => hk)
  have hm0 := hm.mono (G := (· < w.heap.size)) (fun k hk _ => hk)
  clear hv hm
  obtain ⟨l, r, y, vs, ms⟩ := s
  dsimp only at *
  obtain ⟨W, HW⟩ := nm ((w.alloc (.cells #[.int .i64 l, .int .i64 r, .int .i64 y, .slice VA vs.length vc, .slice MA ms.length mc] 34)).alloc (.cells #[.int .i64 0, .int .i64 0, .int .i64 0, .slice none 0 0, .slice none 0 0] 34))
  have hv2 : Ints W (· < w.heap.size) VA vs := by rw [← HW.out]; exact hv0.upd ((Upd.refl.alloc _ (S := Non)).alloc _) (fun _ _ _ f => f)
  have hm2 : Ints W (· < w.heap.size) MA ms := by rw [← HW.out]; exact hm0.upd ((Upd.refl.alloc _ (S := Non)).alloc _) (fun _ _ _ f => f)
  have hn1 : Blk W w.heap.size 34 #[.int .i64 l, .int .i64 r, .int .i64 y, .slice VA vs.length vc, .slice MA ms.length mc] := by rw [← HW.out]; exact (Blk.new w _ _).alloc _
  have hb2 : Blk W (w.heap.size + 1) 34 #[.int .i64 0, .int .i64 0, .int .i64 0, .slice none 0 0, .slice none 0 0] := by rw [← HW.out]; exact Blk.new' (by simp)
  have hU : Upd Non w W := by rw [← HW.out]; exact (Upd.refl.alloc _).alloc _
  have hsz : W.heap.size = w.heap.size + 1 + 1 := by rw [← HW.out]; simp
  have e0 := HW.out
  have d0 := hn1.cell 3
  go_enter Try.func40, Try.ntmps40
  go_wp2_with (first | (at_builtin; refine wpList_app rfl rfl T_ints' rfl Own.none_ rfl hv2 (by simp) (icells_one vs) (by simp only [maxLen]; omega) (by omega) ?_; intro A2 c2 w2 ho2 hu2 hat2; have m1 := hn1.upd hu2 At.none_; have m2 := hb2.upd hu2 At.none_; have q3 := m1.cell 3; have q4 := m1.cell 4; have f3 := m1.frozen 3; have hm3 := (hm2.upd hu2 (fun _ _ _ h => At.none_ h)).upd (updCell w2 w.heap.size 3 (.slice A2 vs.length c2)) (fun k _ hk e => by omega); have m3 : Blk (w2.setCell ⟨w.heap.size, 3, none⟩ (.slice A2 vs.length c2)) w.heap.size 34 #[.int .i64 l, .int .i64 r, .int .i64 y, .slice A2 vs.length c2, .slice MA ms.length mc] := m1.set_ 3 (.slice A2 vs.length c2); have m4 := m2.far (p := ⟨w.heap.size, 3, none⟩) (by show w.heap.size + 1 ≠ w.heap.size; omega) (.slice A2 vs.length c2)) | (at_builtin; refine wpList_app rfl rfl T_i64s rfl Own.none_ rfl hm3 (by simp) (icells_one ms) (by simp only [maxLen]; omega) (by omega) ?_; intro A3 c3 w3 ho3 hu3 hat3; have n1 := m3.upd hu3 At.none_; have n2 := m4.upd hu3 At.none_; have a0 := n1.cell 0; have a1 := n1.cell 1; have a2 := n1.cell 2; have a3 := n1.cell 3; have a4 := n1.cell 4; have g4 := n1.frozen 4; have b0 := n2.cell 0; have b1 := n2.cell 1; have b2 := n2.cell 2; have b3 := n2.cell 3; have b4 := n2.cell 4; have h0 := n2.frozen 0; have h1 := n2.frozen 1; have h2 := n2.frozen 2; have h3 := n2.frozen 3; have h4 := n2.frozen 4))
  have hA2 : ∀ k, At A2 k → w.heap.size + 1 < k ∧ k < w2.heap.size := fun k hk => by
    refine ⟨?_, ho2.lt hk⟩
    rcases hat2 k hk with h | h
    · exact (At.none_ h).elim
    · omega
  have hw2 := hu2.size
  have hA3 : ∀ k, At A3 k → w.heap.size + 1 < k := fun k hk => by
    rcases hat3 k hk with h | h
    · exact (At.none_ h).elim
    · simp [World.setCell] at h; omega
  obtain ⟨w4, H4⟩ := nm (((((w3.setCell ⟨w.heap.size, 4, none⟩ (.slice A3 ms.length c3)).setCell ⟨w.heap.size + 1, 0, none⟩ (.int .i64 l)).setCell ⟨w.heap.size + 1, 1, none⟩ (.int .i64 r)).setCell ⟨w.heap.size + 1, 2, none⟩ (.int .i64 y)).setCell ⟨w.heap.size + 1, 3, none⟩ (.slice A2 vs.length c2) |>.setCell ⟨w.heap.size + 1, 4, none⟩ (.slice A3 ms.length c3))
  have hx : Blk w4 (w.heap.size + 1) 34 #[.int .i64 l, .int .i64 r, .int .i64 y, .slice A2 vs.length c2, .slice A3 ms.length c3] := by
    rw [← H4.out]
    exact (((((n2.far (p := ⟨w.heap.size, 4, none⟩) (by show w.heap.size + 1 ≠ w.heap.size; omega) (.slice A3 ms.length c3)).set_ 0 (.int .i64 l)).set_ 1 (.int .i64 r)).set_ 2 (.int .i64 y)).set_ 3 (.slice A2 vs.length c2)).set_ 4 (.slice A3 ms.length c3)
  have hU2 : Upd (fun k => k = w.heap.size ∨ k = w.heap.size + 1) w3 w4 := by
    rw [← H4.out]
    exact (((((Upd.refl.setCell (p := ⟨w.heap.size, 4, none⟩) (.inl (.inl rfl)) _).setCell (p := ⟨w.heap.size + 1, 0, none⟩) (.inl (.inr rfl)) _).setCell (p := ⟨w.heap.size + 1, 1, none⟩) (.inl (.inr rfl)) _).setCell (p := ⟨w.heap.size + 1, 2, none⟩) (.inl (.inr rfl)) _).setCell (p := ⟨w.heap.size + 1, 3, none⟩) (.inl (.inr rfl)) _).setCell (p := ⟨w.heap.size + 1, 4, none⟩) (.inl (.inr rfl)) _
  rw [H4.out]
  refine bodyPost_ret (results_cell_row rfl _ _ (w.heap.size + 1) 34 #[.int .i64 l, .int .i64 r, .int .i64 y, .slice A2 vs.length c2, .slice A3 ms.length c3] (0, 0) _ rfl hx Try.underlying34 rfl (by kernel_rfl)) rfl ?_
  rw [Nat.zero_add, List.nil_append] at ho2 ho3
  have o2 := ((ho2.upd (updCell w2 w.heap.size 3 (.slice A2 vs.length c2)) (fun k hk e => by have := hA2 k hk; omega)).upd hu3 (fun k hk h => At.none_ h)).upd hU2 (fun k hk h => by have := hA2 k hk; omega)
  have o3 := ho3.upd hU2 (fun k hk h => by have := hA3 k hk; omega)
  refine ⟨A2, c2, A3, c3, rfl, o2.sl.mono (fun k _ hk => by have := hA2 k hk; show _ ≤ _; omega), o3.sl.mono (fun k _ hk => by have := hA3 k hk; show _ ≤ _; omega), ho2.le, ho3.le, ?_⟩
  exact (((hU.trans hu2 (fun i _ h => (At.none_ h).elim)).trans (updCell w2 w.heap.size 3 (.slice A2 vs.length c2)) (fun i hi e => by omega)).trans hu3 (fun i _ h => (At.none_ h).elim)).trans hU2 (fun i hi h => by omega)
end Go.Proofs.Ytigambcefdeaoaa

namespace Go.Proofs.Ytigambcefdeaoaa
open Go.RowKit

section
variable {w : World} {ρ : Nat → Role} {gb : Nat} {a : GA} {G : EG}
theorem GM.lv (h : GM w ρ gb a G) : NodesV w (fun k => ρ k = .nodes ∨ ρ k = .kids) a.l G.L := by
  obtain ⟨cs, h1, h2, h3⟩ := h.l
  refine NodesO.view (G := fun k => ρ k = .kids) (n := G.L.length) (c := a.lc) ⟨rfl, cs, h1, h2.mono (Upd.refl (S := Non)) (fun _ _ _ f => f) (fun k _ hk => ⟨hk, fun hA => ?_⟩)⟩ (fun k hk => .inl (h3 k hk)) (fun k _ hk => .inr hk)
  have := h3 k hA
  rw [hk] at this
  cases this
end

set_option maxRecDepth 100000 in
set_option maxHeartbeats 2000000 in
theorem gNodes_c (w : World) (ρ : Nat → Role) (gb : Nat) (a : GA) (G : EG) (h : GM w ρ gb a G) (hn : G.L.length ≤ 2000) (hk : ∀ nd ∈ G.L, nd.kids.length ≤ 100000000000) :
    Calls Try.prog 17 #[gp gb] w fun e w' => ∃ A c, e = .returned (.slice A G.L.length c) ∧ NodesO w' (w.heap.size ≤ ·) A G.L.length c G.L ∧ (∀ k, At A k → w.heap.size ≤ k) ∧ Upd Non w w' := by
  have HK := Lib.hid hk
  have c0 := h.c0
  have hgb := h.blk.lt
  have hlv := h.lv.mono (G := (· < w.heap.size)) (fun k hk _ => hk)
  clear hk h
  obtain ⟨L, HL⟩ := nm G.L
  rw [HL.out] at HK c0 hlv hn ⊢
  generalize a.l = lA at *
  generalize a.lc = lc at *
  unfold gp
  go_enter Try.func17, Try.ntmps17
  go_wp2_with fail
  go_loopg [3, 5, 11] L.length (fun g v _ i wr => ∃ (k c : Nat) (A : Option Addr), Hid (g = L.length - k) ∧ k ≤ L.length ∧ i = .int .i64 k ∧ v = .slice A k c ∧ NodesO wr (w.heap.size ≤ ·) A k c (L.take k) ∧ Hid (∀ j, At A j → w.heap.size ≤ j) ∧ Upd Non w wr)
  case atStart => exact ⟨0, 0, none, rfl, by omega, rfl, rfl, ⟨rfl, [], Own.none_, NodeCells.nil⟩, fun j hj => (At.none_ hj).elim, Upd.refl⟩
  case round =>
    obtain ⟨k, c, A, Hg, hk, rfl, rfl, hno, HA, hu⟩ := hrel
    by_cases hlt : k < L.length
    · obtain ⟨lb, lo, rfl, hFl, hlb, h1, h2, KA, kc, h3, hkc, hki⟩ := (hlv.upd hu (fun _ _ _ f => f)).at_ hlt
      have hkl := HK.out _ (List.getElem_mem hlt)
      have HT : Hid (L.take (k + 1) = L.take k ++ [L[k]]) := List.take_succ_eq_append_getElem hlt
      generalize L[k] = nd at *
      obtain ⟨op, imm, kids⟩ := nd
      dsimp only at h1 h2 h3 hkc hki hkl
      have C1 := Lib.hid (cloneNode_c (wr.alloc (.cells #[.int .i64 op, .int .i64 imm, .slice KA kids.length kc] 24)) op imm kids KA kc (· < w.heap.size) (hki.upd (Upd.refl.alloc _ (S := Non)) (fun _ _ _ f => f)) hkl)
      go_wp2_with fail
      refine C1.out.mono ?_
      rintro e w1 ⟨KB, kd, rfl, hoK, hKn, hu1⟩
      have hu2 : Upd Non w w1 := (hu.alloc _).then_non hu1
      have hwr := hu.size
      have hn1 := hno.upd ((Upd.refl.alloc (.cells #[.int .i64 op, .int .i64 imm, .slice KA kids.length kc] 24) (S := Non)).then_non hu1) (fun _ _ f => f) (fun _ _ _ f => f)
      obtain ⟨e1, cs, hoA, hcs⟩ := hn1
      have hAl : ∀ j, At A j → j < wr.heap.size := fun j hj => by
        obtain ⟨_, _, ho, _⟩ := hno
        exact ho.lt hj
      have E1 := Lib.hid e1
      clear C1 h1 h2 h3 e1
      go_wp2_with (at_builtin; refine wpList_app rfl rfl T_nodes rfl (hoA.alloc _) rfl (Sl.new _ _ _) rfl (by simp [Value.oneCell']) (by simp only [maxLen]; omega) (by omega) ?_; intro A3 c3 w3 ho3 hu3 hat3)
      go_roundg (L.length - (k + 1))
      case measure => rw [Hg.out]; omega
      case rel =>
        have uA : Upd Non w1 (w1.alloc (.cells #[.int .i64 op, .int .i64 imm, .slice KB kids.length kd] 24)) := Upd.refl.alloc _
        refine ⟨k + 1, c3, A3, rfl, by omega, by go_num, rfl, ?_, fun j hj => ?_, (hu2.then_non uA).trans hu3 (fun i hi h => by have := HA.out i h; omega)⟩
        · rw [HT.out]
          refine NodesO.snoc (nd := ⟨op, imm, kids⟩) (w := w1.alloc (.cells #[.int .i64 op, .int .i64 imm, .slice KB kids.length kd] 24)) (G := (w.heap.size ≤ ·)) ⟨E1.out, cs, hoA.alloc _, hcs.mono uA (fun _ _ _ f => f) (fun _ _ h => h)⟩ (hcs.mono uA (fun _ _ _ f => f) (fun _ _ h => h)) (((hoK.alloc _).ints).mono (fun j _ hj => ⟨?_, fun hA => ?_⟩)) hoK.le ho3 hu3 hat3 (fun _ _ h => h)
          · have := hKn j hj; simp at this; show _ ≤ _; omega
          · have := hKn j hj; have := hAl j hA; simp at *; omega
        · rcases hat3 j hj with h | h
          · exact HA.out j h
          · have := hu2.size; simp at h; omega
    · obtain rfl : L.length = k := by omega
      rw [List.take_length] at hno
      go_wp2_with fail
      go_ret
      exact ⟨A, c, rfl, hno, HA.out, hu⟩
end Go.Proofs.Ytigambcefdeaoaa

namespace Go.Proofs.Ytigambcefdeaoaa
open Go.RowKit

def StepAt (w : World) (F : Nat → Prop) (b o : Nat) (s : Stp) : Prop :=
  w.cell? ⟨b, o, none⟩ = some (.int .i64 s.l) ∧ w.cell? ⟨b, o + 1, none⟩ = some (.int .i64 s.r) ∧ w.cell? ⟨b, o + 2, none⟩ = some (.int .i64 s.why) ∧
    ∃ VA vc MA mc, w.cell? ⟨b, o + 3, none⟩ = some (.slice VA s.vars.length vc) ∧ w.cell? ⟨b, o + 4, none⟩ = some (.slice MA s.imms.length mc) ∧ s.vars.length ≤ vc ∧ s.imms.length ≤ mc ∧ Ints w F VA s.vars ∧ Ints w F MA s.imms
def StepsV (w : World) (F : Nat → Prop) (A : Option Addr) (T : List Stp) : Prop :=
  T = [] ∨ ∃ b off, A = some ⟨b, off, none⟩ ∧ F b ∧ ∀ i (h : i < T.length), StepAt w F b (off + i * 5) T[i]
section
variable {w w' : World} {F G S : Nat → Prop} {A : Option Addr} {T : List Stp}
theorem StepsV.upd (h : StepsV w F A T) (u : Upd S w w') (d : ∀ k, k < w.heap.size → F k → ¬ S k) : StepsV w' F A T := by
  rcases h with h | ⟨b, off, e, hF, hc⟩
  · exact .inl h
  · refine .inr ⟨b, off, e, hF, fun i hi => ?_⟩
    obtain ⟨h1, h2, h3, VA, vc, MA, mc, h4, h5, h6, h7, h8, h9⟩ := hc i hi
    have db := d b (World.block_lt_of_cell? w _ h1) hF
    exact ⟨cell_upd h1 u db, cell_upd h2 u db, cell_upd h3 u db, VA, vc, MA, mc, cell_upd h4 u db, cell_upd h5 u db, h6, h7, h8.upd u d, h9.upd u d⟩
theorem StepsV.mono (h : StepsV w F A T) (hFG : ∀ k, k < w.heap.size → F k → G k) : StepsV w G A T := by
  rcases h with h | ⟨b, off, e, hF, hc⟩
  · exact .inl h
  · by_cases hn : T = []
    · exact .inl hn
    · have h0 : 0 < T.length := List.length_pos_iff.2 hn
      refine .inr ⟨b, off, e, hFG b (World.block_lt_of_cell? w _ (hc 0 h0).1) hF, fun i hi => ?_⟩
      obtain ⟨h1, h2, h3, VA, vc, MA, mc, h4, h5, h6, h7, h8, h9⟩ := hc i hi
      exact ⟨h1, h2, h3, VA, vc, MA, mc, h4, h5, h6, h7, h8.mono hFG, h9.mono hFG⟩
theorem StepsV.at_ (h : StepsV w F A T) {i : Nat} (hi : i < T.length) : ∃ b off, A = some ⟨b, off, none⟩ ∧ F b ∧ b < w.heap.size ∧ StepAt w F b (off + i * 5) T[i] := by
  rcases h with h | ⟨b, off, e, hF, hc⟩
  · subst h; simp at hi
  · exact ⟨b, off, e, hF, World.block_lt_of_cell? w _ (hc i hi).1, hc i hi⟩
theorem steps_view {c : Nat} {cs : List Value} (ho : Own w 34 5 A T.length c cs) (hc : StepCells w F cs T) (hA : ∀ k, At A k → F k) : StepsV w F A T := by
  rcases ho.cases with ⟨_, h0, _, _⟩ | ⟨g, cur, rfl, hb, _, _, _, ht⟩
  · exact .inl (List.eq_nil_of_length_eq_zero h0)
  · refine .inr ⟨g, 0, rfl, hA g (At.some_.2 rfl), fun i hi => ?_⟩
    obtain ⟨VA, vc, MA, mc, h1, h2, h3, h4, h5, h6, h7, h8, h9⟩ := hc.2 i hi
    have hcell : ∀ j u, cs[j]? = some u → w.cell? ⟨g, j, none⟩ = some u := by
      intro j u hj
      rw [hb.cell]
      rw [← ht, List.getElem?_take] at hj
      split at hj
      · simpa using hj
      · cases hj
    refine ⟨?_, ?_, ?_, VA, vc, MA, mc, ?_, ?_, h6, h7, h8, h9⟩
    · rw [Nat.zero_add, Nat.mul_comm]; exact hcell _ _ h1
    · rw [Nat.zero_add, Nat.mul_comm]; exact hcell _ _ h2
    · rw [Nat.zero_add, Nat.mul_comm]; exact hcell _ _ h3
    · rw [Nat.zero_add, Nat.mul_comm]; exact hcell _ _ h4
    · rw [Nat.zero_add, Nat.mul_comm]; exact hcell _ _ h5
end
theorem GM.tv {w : World} {ρ : Nat → Role} {gb : Nat} {a : GA} {G : EG} (h : GM w ρ gb a G) : StepsV w (fun k => ρ k = .steps ∨ ρ k = .vars) a.t G.T := by
  obtain ⟨cs, h1, h2, h3⟩ := h.t
  exact steps_view h1 (h2.mono (Upd.refl (S := Non)) (fun _ _ _ f => f) (fun k _ hk => .inr hk)) (fun k hk => .inl (h3 k hk))

set_option maxRecDepth 100000 in
set_option maxHeartbeats 2000000 in
theorem gSteps_c (w : World) (ρ : Nat → Role) (gb : Nat) (a : GA) (G : EG) (h : GM w ρ gb a G) (hn : G.T.length ≤ 1000000000) (hk : ∀ s ∈ G.T, s.vars.length ≤ 100000000000 ∧ s.imms.length ≤ 100000000000) :
    Calls Try.prog 14 #[gp gb] w fun e w' => ∃ A c, e = .returned (.slice A G.T.length c) ∧ StepsV w' (w.heap.size ≤ ·) A G.T ∧ Upd Non w w' := by
  have HK := Lib.hid hk
  have c6 := h.c6
  have hgb := h.blk.lt
  have htv := h.tv.mono (G := (· < w.heap.size)) (fun k hk _ => hk)
  clear hk h
  obtain ⟨T, HT⟩ := nm G.T
  rw [HT.out] at HK c6 htv hn ⊢
  generalize a.t = tA at *
  generalize a.tc = tc at *
  unfold gp
  go_enter Try.func14, Try.ntmps14
  go_wp2_with fail
  go_loopg [3, 5, 11] T.length (fun g v _ i wr => ∃ (k c : Nat) (A : Option Addr) (cs : List Value), Hid (g = T.length - k) ∧ k ≤ T.length ∧ i = .int .i64 k ∧ v = .slice A k c ∧ Own wr 34 5 A k c cs ∧ Hid (StepCells wr (fun k => w.heap.size ≤ k ∧ ¬ At A k) cs (T.take k)) ∧ Hid (∀ j, At A j → w.heap.size ≤ j) ∧ Upd Non w wr)
  case atStart => exact ⟨0, 0, none, [], rfl, by omega, rfl, rfl, Own.none_, StepCells.nil, fun j hj => (At.none_ hj).elim, Upd.refl⟩
  case round =>
    obtain ⟨k, c, A, cs, Hg, hk, rfl, rfl, ho, Hcs, HA, hu⟩ := hrel
    by_cases hlt : k < T.length
    · obtain ⟨lb, lo, rfl, hFl, hlb, h1, h2, h3, VA, vc, MA, mc, h4, h5, hvc, hmc, hv, hm⟩ := (htv.upd hu (fun _ _ _ f => f)).at_ hlt
      obtain ⟨hk1, hk2⟩ := HK.out _ (List.getElem_mem hlt)
      have HTk : Hid (T.take (k + 1) = T.take k ++ [T[k]]) := List.take_succ_eq_append_getElem hlt
      generalize T[k] = s at *
      have uA : Upd Non wr (wr.alloc (.cells #[.int .i64 s.l, .int .i64 s.r, .int .i64 s.why, .slice VA s.vars.length vc, .slice MA s.imms.length mc] 34)) := Upd.refl.alloc _
      have C1 := Lib.hid (cloneStep_c (wr.alloc (.cells #[.int .i64 s.l, .int .i64 s.r, .int .i64 s.why, .slice VA s.vars.length vc, .slice MA s.imms.length mc] 34)) s VA MA vc mc (· < w.heap.size) (hv.upd uA (fun _ _ _ f => f)) (hm.upd uA (fun _ _ _ f => f)) hk1 hk2)
      go_wp2_with fail
      refine C1.out.mono ?_
      rintro e w1 ⟨VB, vd, MB, md, rfl, hV1, hM1, hvd, hmd, hu1⟩
      have hu2 : Upd Non w w1 := (hu.alloc _).then_non hu1
      have hwr := hu.size
      have ho1 := (ho.upd uA (fun _ _ f => f)).upd hu1 (fun _ _ f => f)
      have hAl : ∀ j, At A j → j < wr.heap.size := fun j hj => ho.lt hj
      have HC1 : Hid (StepCells w1 (fun k => w.heap.size ≤ k ∧ ¬ At A k) cs (T.take k)) := (Hcs.out.mono uA (fun _ _ _ f => f) (fun _ _ h => h)).mono hu1 (fun _ _ _ f => f) (fun _ _ h => h)
      clear C1 h1 h2 h3 h4 h5
      go_wp2_with (at_builtin; refine wpList_app rfl rfl T_steps rfl (ho1.alloc _) rfl (Sl.new _ _ _) rfl (by simp [Value.oneCell']) (by simp only [maxLen]; omega) (by omega) ?_; intro A3 c3 w3 ho3 hu3 hat3)
      go_roundg (T.length - (k + 1))
      case measure => rw [Hg.out]; omega
      case rel =>
        have uB : Upd Non w1 (w1.alloc (.cells #[.int .i64 s.l, .int .i64 s.r, .int .i64 s.why, .slice VB s.vars.length vd, .slice MB s.imms.length md] 34)) := Upd.refl.alloc _
        have hsz := hu1.size
        simp at hsz
        refine ⟨k + 1, c3, A3, cs ++ stpCells s VB MB vd md, rfl, by omega, by go_num, rfl, ho3, ?_, fun j hj => ?_, (hu2.then_non uB).trans hu3 (fun i hi h => by have := HA.out i h; omega)⟩
        · show StepCells _ _ _ _
          rw [HTk.out]
          have mv : ∀ {B : Option Addr} {xs : List Int}, Ints w1 ((wr.alloc (.cells #[.int .i64 s.l, .int .i64 s.r, .int .i64 s.why, .slice VA s.vars.length vc, .slice MA s.imms.length mc] 34)).heap.size ≤ ·) B xs → Ints w1 (fun k => w.heap.size ≤ k ∧ ¬ At A k) B xs := fun h => h.mono (fun j _ hj => by
            simp at hj
            exact ⟨by omega, fun hA => by have := hAl j hA; omega⟩)
          refine (((HC1.out.snoc (mv hV1) (mv hM1) hvd hmd).mono uB (fun _ _ _ f => f) (fun _ _ h => h)).mono hu3 (fun j _ hj => hj.2) (fun j hj hr => ⟨hr.1, fun hA => ?_⟩))
          rcases hat3 j hA with h | h
          · exact hr.2 h
          · omega
        · rcases hat3 j hj with h | h
          · exact HA.out j h
          · have := hu2.size; simp at h; omega
    · obtain rfl : T.length = k := by omega
      rw [List.take_length] at Hcs
      go_wp2_with fail
      go_ret
      exact ⟨A, c, rfl, steps_view ho (Hcs.out.mono (Upd.refl (S := Non)) (fun _ _ _ f => f) (fun _ _ h => h.1)) HA.out, hu⟩
end Go.Proofs.Ytigambcefdeaoaa
