/-
  What pattern.Valid does.
-/
import Derived.Test.YtblkgjdhaibhgaaPVal2
namespace Go.Proofs.Ytblkgjdhaibhgaa
open Go.RowKit

def validF (p : Pt) (vars imms : Int) : Bool := decide (0 ≤ vars ∧ vars ≤ 6 ∧ 0 ≤ imms ∧ imms ≤ 6 ∧ p.size ≤ 24) && (vPt p 0 imms (List.replicate vars.toNat 0)).1
theorem zero_int_ : (Try.prog.info? 3).bind (·.zero) = some (.int .i64 0) := by kernel_rfl

set_option maxRecDepth 100000 in
set_option maxHeartbeats 4000000 in
theorem ptValid_c (p : Pt) (w : World) (F : Nat → Prop) (KA : Option Addr) (kc : Nat) (vars imms : Int) (hp : PtK w F p KA kc) (hs : p.size ≤ 1000000000000) :
    Calls Try.prog 44 #[pv p KA kc, .int .i64 vars, .int .i64 imms] w fun e w' => e = .returned (.bool (validF p vars imms)) ∧ Upd Non w w' := by
  have hp0 := PtK.mono (G := (· < w.heap.size)) (fun k hk _ => hk) p KA kc hp
  obtain ⟨W, HW⟩ := nm (w.alloc (.cells #[.int .i64 p.v, .int .i64 p.op, .int .i64 p.imm, .int .i64 p.iv, .slice KA p.kids.length kc] 30))
  have hU : Upd Non w W := by rw [← HW.out]; exact Upd.refl.alloc _
  have hb : Blk W w.heap.size 30 #[.int .i64 p.v, .int .i64 p.op, .int .i64 p.imm, .int .i64 p.iv, .slice KA p.kids.length kc] := by rw [← HW.out]; exact Blk.new _ _ _
  have e0 := HW.out
  have hpW := PtK.upd hU (fun _ _ _ f => f) p KA kc hp0
  have C1 := Lib.hid (ptSize_c p W _ KA kc hpW hs)
  have c0 : W.cell? ⟨w.heap.size, 0, none⟩ = some (.int .i64 p.v) := hb.cell 0
  have c1 : W.cell? ⟨w.heap.size, 1, none⟩ = some (.int .i64 p.op) := hb.cell 1
  have c2 : W.cell? ⟨w.heap.size, 2, none⟩ = some (.int .i64 p.imm) := hb.cell 2
  have c3 : W.cell? ⟨w.heap.size, 3, none⟩ = some (.int .i64 p.iv) := hb.cell 3
  have c4 : W.cell? ⟨w.heap.size, 4, none⟩ = some (.slice KA p.kids.length kc) := hb.cell 4
  have hlt := hb.lt
  obtain ⟨R, HR⟩ := nm (validF p vars imms)
  rw [HR.out]
  unfold pv at C1 ⊢
  have HR2 : Hid (R = (decide (0 ≤ vars ∧ vars ≤ 6 ∧ 0 ≤ imms ∧ imms ≤ 6 ∧ p.size ≤ 24) && (vPt p 0 imms (List.replicate vars.toNat 0)).1)) := HR.out.symm
  have HV := Lib.hid (fun w g c vs h1 h2 h3 => ptvalid_c p w (· < W.heap.size) KA kc g c 0 imms vs h1 h2 h3 hs)
  clear hp hp0 HR
  by_cases h1 : 0 ≤ vars ∧ vars ≤ 6 ∧ 0 ≤ imms ∧ imms ≤ 6
  · obtain ⟨g1, g2, g3, g4⟩ := h1
    obtain ⟨n, rfl⟩ := Int.eq_ofNat_of_zero_le g1
    have t1 : decide ((n : Int) < 0) = false := by simp
    have t2 : decide ((n : Int) > 6) = false := decide_eq_false (by omega)
    have t3 : decide (imms < 0) = false := decide_eq_false (by omega)
    have t4 : decide (imms > 6) = false := decide_eq_false (by omega)
    by_cases h24 : p.size ≤ 24
    · have t5 : decide ((p.size : Int) > 24) = false := decide_eq_false (by omega)
      have hmk := run_mk (P := Try.prog) T_ints' zero_int_ rfl n (by omega) (by omega)
      have HR3 : Hid (R = (vPt p 0 imms (List.replicate n 0)).1) := by show _ = _; rw [HR2.out, decide_eq_true ⟨g1, g2, g3, g4, h24⟩]; simp
      clear HR2
      go_enter Try.func44, Try.ntmps44
      go_wp2_with fail
      refine C1.out.mono ?_
      rintro e w2 ⟨rfl, hu2⟩
      go_wp2_with fail
      obtain ⟨wD, HwD⟩ := nm w2.drew
      have uD : Upd Non W wD := hu2.then_non (by rw [← HwD.out]; exact Upd.refl.drew)
      have hS : ∀ w', Upd Non wD w' → w'.cell? ⟨w.heap.size, 0, none⟩ = some (.int .i64 p.v) ∧ w'.cell? ⟨w.heap.size, 1, none⟩ = some (.int .i64 p.op) ∧ w'.cell? ⟨w.heap.size, 2, none⟩ = some (.int .i64 p.imm) ∧ w'.cell? ⟨w.heap.size, 3, none⟩ = some (.int .i64 p.iv) ∧ w'.cell? ⟨w.heap.size, 4, none⟩ = some (.slice KA p.kids.length kc) := fun w' u => by
        have u2 := uD.then_non u
        exact ⟨cell_upd c0 u2 (fun f => f), cell_upd c1 u2 (fun f => f), cell_upd c2 u2 (fun f => f), cell_upd c3 u2 (fun f => f), cell_upd c4 u2 (fun f => f)⟩
      have hsz := uD.size
      have uM : Upd Non wD (wD.alloc (.cells (Array.replicate n (.int .i64 0)) 3)) := Upd.refl.alloc _
      have hgM : VBlk (wD.alloc (.cells (Array.replicate n (.int .i64 0)) 3)) wD.heap.size (List.replicate n 0) := by
        unfold VBlk
        rw [show (icells (List.replicate n 0)).toArray = Array.replicate n (Value.int .i64 0) by simp [icells]]
        exact Blk.new _ _ _
      have C2 := Lib.hid (HV.out _ wD.heap.size n (List.replicate n 0) (PtK.mono (fun k _ hk => Nat.lt_of_lt_of_le (show k < w.heap.size from hk) hU.size) p KA kc (PtK.upd (uD.then_non uM) (fun _ _ _ f => f) p KA kc hpW)) (by omega) hgM (by simp; omega))
      rw [List.length_replicate] at C2
      unfold pv at C2
      clear HV C1
      refine wp_region_held_drew (S := fun w' => w'.cell? ⟨w.heap.size, 0, none⟩ = some (.int .i64 p.v) ∧ w'.cell? ⟨w.heap.size, 1, none⟩ = some (.int .i64 p.op) ∧ w'.cell? ⟨w.heap.size, 2, none⟩ = some (.int .i64 p.imm) ∧ w'.cell? ⟨w.heap.size, 3, none⟩ = some (.int .i64 p.iv) ∧ w'.cell? ⟨w.heap.size, 4, none⟩ = some (.slice KA p.kids.length kc)) (by kernel_rfl) (by rw [HwD.out]; exact hS _ Upd.refl) (fun hHeld => ?_)
      rw [HwD.out] at hHeld ⊢
      refine wpAnyH_take (i := 0) (v := ?_) rfl (by kernel_rfl) (by kernel_rfl) (by kernel_rfl) (fun _ _ _ h => h) (Or.inl ⟨by rfl, ?_⟩) (by assumption) ?_
      rotate_left
      · intro w hSw; (try dsimp only at hSw); go_simp; try with_reducible rfl
      try simp only [put_y]
      try simp only [Act.put]
      try simp only [put_z]
      refine wpAnyH_take (i := 1) (v := ?_) rfl (by kernel_rfl) (by kernel_rfl) (by kernel_rfl) (fun _ _ _ h => h) (Or.inl ⟨by rfl, ?_⟩) (by assumption) ?_
      rotate_left
      · intro w hSw; (try dsimp only at hSw); go_simp; try with_reducible rfl
      try simp only [put_y]
      try simp only [Act.put]
      try simp only [put_z]
      refine wpAnyH_take (i := 2) (v := ?_) rfl (by kernel_rfl) (by kernel_rfl) (by kernel_rfl) (fun _ _ _ h => h) (Or.inl ⟨by rfl, ?_⟩) (by assumption) ?_
      rotate_left
      · intro w hSw; (try dsimp only at hSw); go_simp; try with_reducible rfl
      try simp only [put_y]
      try simp only [Act.put]
      try simp only [put_z]
      refine wpAnyH_ready (rs := [3]) (by kernel_rfl) (by simp) ?_
      refine AllReadyH.cons rfl (fun K hK => ?_) AllReadyH.nil
      go_simp
      refine hK.out _ _ ?_ (fun hHeld => ?_)
      · exact hS _ uM
      clear hK K
      try simp only [put_y]
      try simp only [Act.put]
      try simp only [put_z]
      refine wpAnyH_ready (rs := [4]) (by kernel_rfl) (by simp) ?_
      refine AllReadyH.cons rfl (fun K hK => ?_) AllReadyH.nil
      go_simp
      refine C2.out.mono ?_
      rintro e w5 ⟨rfl, _, hu5⟩
      have hu6 : Upd Non wD w5 := uM.trans hu5 (fun k hk q => by omega)
      go_wp2_with fail
      refine hK.out _ _ ?_ (fun hHeld => ?_)
      · exact hS _ hu6
      clear hK K
      try simp only [put_y]
      try simp only [Act.put]
      try simp only [put_z]
      refine wpAnyH_take (i := 5) (v := ?_) rfl (by kernel_rfl) (by kernel_rfl) (by kernel_rfl) (fun _ _ _ h => h) (Or.inl ⟨by rfl, ?_⟩) (by assumption) ?_
      rotate_left
      · intro w hSw; (try dsimp only at hSw); go_simp; try with_reducible rfl
      try simp only [put_y]
      try simp only [Act.put]
      try simp only [put_z]
      refine wpAnyH_done (by kernel_rfl) ?_ _
      go_wp2_with fail
      go_ret
      exact ⟨by rw [HR3.out]; rfl, hU.then_non (uD.then_non hu6)⟩
    · have t5 : decide ((p.size : Int) > 24) = true := decide_eq_true (by omega)
      have HR3 : Hid (R = false) := by show _ = _; rw [HR2.out, decide_eq_false (fun q => h24 q.2.2.2.2)]; rfl
      clear HR2
      go_enter Try.func44, Try.ntmps44
      go_wp2_with fail
      refine C1.out.mono ?_
      rintro e w2 ⟨rfl, hu2⟩
      go_wp2_with fail
      go_ret
      exact ⟨by rw [HR3.out]; rfl, hU.then_non hu2⟩
  · have HR3 : Hid (R = false) := by show _ = _; rw [HR2.out, decide_eq_false (fun q => h1 ⟨q.1, q.2.1, q.2.2.1, q.2.2.2.1⟩)]; rfl
    obtain ⟨b1, f1⟩ : ∃ b, decide (vars < 0) = b := ⟨_, rfl⟩
    obtain ⟨b2, f2⟩ : ∃ b, decide (vars > 6) = b := ⟨_, rfl⟩
    obtain ⟨b3, f3⟩ : ∃ b, decide (imms < 0) = b := ⟨_, rfl⟩
    obtain ⟨b4, f4⟩ : ∃ b, decide (imms > 6) = b := ⟨_, rfl⟩
    have HB : Hid ((b1 || b2 || b3 || b4) = true) := by
      show _ = _
      rw [← f1, ← f2, ← f3, ← f4]
      simp
      omega
    clear h1 HR2 C1 HV
    cases b1 with
    | true =>
      go_enter Try.func44, Try.ntmps44
      go_wp2_with fail
      go_ret
      exact ⟨by rw [HR3.out]; rfl, hU⟩
    | false => cases b2 with
      | true =>
        go_enter Try.func44, Try.ntmps44
        go_wp2_with fail
        go_ret
        exact ⟨by rw [HR3.out]; rfl, hU⟩
      | false => cases b3 with
        | true =>
          go_enter Try.func44, Try.ntmps44
          go_wp2_with fail
          go_ret
          exact ⟨by rw [HR3.out]; rfl, hU⟩
        | false => cases b4 with
          | true =>
            go_enter Try.func44, Try.ntmps44
            go_wp2_with fail
            go_ret
            exact ⟨by rw [HR3.out]; rfl, hU⟩
          | false => exact absurd HB.out (by simp)
end Go.Proofs.Ytblkgjdhaibhgaa
