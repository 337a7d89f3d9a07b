/-
  The reader's cond walked.
-/
import Derived.Test.YtblkgjdhaibhgaaCndC
namespace Go.Proofs.Ytblkgjdhaibhgaa
open Go.RowKit

def CondP (T : List (Bs × Nat)) (w : World) (p : Nat) (A : Option Addr) (c : Nat) (L : List Tok) (x : St) (r : Except Er (Cd × PS)) (e : Ending) (w' : World) : Prop :=
  ∃ (cd : Cd) (y : St), e = .returned (.agg #[.int .i64 cd.kind, .int .i64 cd.a, .int .i64 cd.b, .int .i64 cd.n]) ∧ RdS w' p A c L y ∧ Good T y ∧ y.left = x.left ∧ (∀ k, y.own p k → x.own p k ∨ w.heap.size ≤ k) ∧ Upd (x.own p) w w' ∧ ResS x y r (fun v => v = cd ∧ x.i + 1 ≤ y.i)
theorem hcfC : ∀ (args : Array Value) (w : World), (callFunc 67 args).run Try.prog w = .ok (.enter 67 args) w := fun args w => by
  simp [callFunc, Try.func67, Try.f67]
set_option maxRecDepth 100000 in
set_option maxHeartbeats 4000000 in
theorem rCond_c {L : List Tok} {T : List (Bs × Nat)} {fin : Nat} (hL : LOk L T fin) {w : World} {p : Nat} {A : Option Addr} {c : Nat} {x : St} (h : RdS w p A c L x) (hx : Good T x) (hlf : x.left = false) :
    Calls Try.prog 43 #[.pointer (some ⟨p, 0, none⟩)] w (CondP T w p A c L x (pcondF T fin (psOf x))) := by
  obtain ⟨W1, HW1⟩ := nm (w.alloc (.cells #[.int .i64 0, .int .i64 0, .int .i64 0, .int .i64 0] 66))
  have u1 : Upd Non w W1 := by rw [← HW1.out]; exact Upd.refl.alloc _
  have b1 : Blk W1 w.heap.size 66 (cdc 0) := by rw [← HW1.out]; exact Blk.new _ _ _
  have s1 : W1.heap.size = w.heap.size + 1 := by rw [← HW1.out]; simp
  obtain ⟨W2, HW2⟩ := nm (W1.alloc (.cells #[.int .i64 0, .int .i64 0, .int .i64 0, .int .i64 0] 66))
  have u2 : Upd Non W1 W2 := by rw [← HW2.out]; exact Upd.refl.alloc _
  have b2 : Blk W2 (w.heap.size + 1) 66 (cdc 0) := by rw [← HW2.out, ← s1]; exact Blk.new _ _ _
  have s2 : W2.heap.size = w.heap.size + 2 := by rw [← HW2.out]; simp [s1]
  have b1 := b1.upd u2 (fun f => f)
  have u2 := u1.then_non u2
  have hpw : p < w.heap.size := h.blk.lt
  have hown : ∀ j, x.own p j → j < w.heap.size := fun j hj => h.lt hj
  have h2 := h.non u2
  have HS : Hid (LocS 2 w W2 p A c L x x) := ⟨h2, fun k q => .inl q, hown, u2.mono (fun _ _ f => f.elim), by omega⟩
  have CW := Lib.hid (rWordG_c hL h2 hx 67 #[.pointer (some ⟨w.heap.size + 1, 0, none⟩)] hcfC cdc 0 b2 (by omega) knF (fun (v : Nat) k => k = (v : Int))
    (fun s ps v y q => by
      unfold knF at q
      cases hf : findL condL s 0 with
      | none => rw [hf] at q; cases q
      | some i => rw [hf] at q; simp only [Option.map_some] at q; injection q with q; injection q with _ q; subst q; exact ⟨Nat.le_succ _, Nat.le_succ _⟩)
    (fun s w1 _ _ _ u01 => rCond1_c (h2.non u01) s (b2.upd u01 (fun f => f)) (fun q => by have := hown _ q; omega) (by omega)))
  have e1 := HW1.out
  have e2 := HW2.out
  have HB1 := Lib.hid b1
  clear h h2 b1 b2 u1 u2 HW1 HW2
  go_enter Try.func43, Try.ntmps43
  go_wp2_with fail
  refine CW.out.mono ?_
  rintro e w3 hw3
  have HW3 := Lib.hid hw3
  clear hw3 CW e1 e2
  obtain ⟨k, y, ts, tp, ev, _, hb3, hy3, hg3, hl3, ho3, hu3, hr3⟩ := HW3.out
  subst ev
  have hle3 := hu3.size
  have HS3 : Hid (LocS 2 w w3 p A c L x y) := ⟨hy3, fun j q => by
    rcases ho3 j q with r | r
    · exact .inl r
    · exact .inr (by omega), hown, HS.out.upd.trans hu3 (fun j hj q => by rcases q with q | q; exact q; omega), by omega⟩
  have HP3 : Hid (Blk w3 (w.heap.size + 1) 66 #[.int .i64 k, .int .i64 0, .int .i64 0, .int .i64 0]) := hb3
  have HR3 := Lib.hid (HB1.out.upd hu3 (fun q => by
    rcases q with q | q
    · have := hown _ q; omega
    · omega))
  have HLY : Hid (y.left = false) := hl3.trans hlf
  have HGY := Lib.hid hg3
  have HRY : Hid (ResS x y (kindF T fin (psOf x)) (fun (v : Nat) => k = (v : Int) ∧ x.i + 1 ≤ y.i)) := hr3
  have z0 := HP3.out.cell 0
  clear hb3 hy3 hg3 hl3 ho3 hu3 hr3 HW3 HS HB1
  by_cases h6 : k = 6
  · subst h6
    have CA := Lib.hid (rImmVar_c hL HS3.out.rd HGY.out)
    go_wp2_with fail
    refine CA.out.mono ?_
    rintro e w4 hw4
    have HW4 := Lib.hid hw4
    clear hw4 CA
    obtain ⟨a, z, ev, hz4, hgz, hlz, hoz, huz, hrz⟩ := HW4.out
    subst ev
    have HS4 := Lib.hid (HS3.out.call hz4 hoz huz)
    have hb4 := HS3.out.keep huz (b := w.heap.size + 1) (by omega) (by omega) HP3.out
    have HR4 := Lib.hid (HS3.out.keep huz (b := w.heap.size) (by omega) (by omega) HR3.out)
    have HGZ := Lib.hid hgz
    have HLZ : Hid (z.left = false) := hlz.trans HLY.out
    have HRZ := Lib.hid hrz
    have v1 := hb4.cell 1
    have vf := hb4.frozen 1
    obtain ⟨w5, Hw5⟩ := nm (w4.setCell ⟨w.heap.size + 1, 1, none⟩ (.int .i64 a))
    have e5 := Hw5.out
    have u5 : Upd (· = w.heap.size + 1) w4 w5 := by rw [← e5]; exact updCell _ _ _ _
    have hb5 : Blk w5 (w.heap.size + 1) 66 #[.int .i64 6, .int .i64 a, .int .i64 0, .int .i64 0] := by rw [← e5]; simpa using hb4.set_ 1 (.int .i64 a)
    have HS5 := Lib.hid (HS4.out.loc u5 (by omega) (by omega))
    have HR5 := Lib.hid (HR4.out.upd u5 (by omega))
    have v0 := hb5.cell 0
    have HP5 := Lib.hid hb5
    clear hz4 hgz hlz hoz huz hrz hb4 hb5 HW4
    have HRZ : Hid (ResS y z (if (6 : Int) = 6 then ivarF T fin (psOf y) else pvarF T fin (psOf y)) (fun (v : Nat) => a = (v : Int) ∧ y.i + 1 ≤ z.i)) := by show ResS _ _ _ _; rw [if_pos rfl]; exact HRZ.out
    have CA := Lib.hid (rImmVar_c hL HS5.out.rd HGZ.out)
    go_wp2_with fail
    refine CA.out.mono ?_
    rintro e w6 hw6
    have HW6 := Lib.hid hw6
    clear hw6 CA e5 v1 vf z0
    obtain ⟨bb, u, ev, hu6, hgu, hlu, hou, huu, hru⟩ := HW6.out
    subst ev
    have HS6 := Lib.hid (HS5.out.call hu6 hou huu)
    have hb6 := HS5.out.keep huu (b := w.heap.size + 1) (by omega) (by omega) HP5.out
    have HR6 := Lib.hid (HS5.out.keep huu (b := w.heap.size) (by omega) (by omega) HR5.out)
    have HGU := Lib.hid hgu
    have HLU : Hid (u.left = false) := hlu.trans HLZ.out
    have HRU := Lib.hid hru
    have q1 := hb6.cell 2
    have qf := hb6.frozen 2
    obtain ⟨w7, Hw7⟩ := nm (w6.setCell ⟨w.heap.size + 1, 2, none⟩ (.int .i64 bb))
    have e7 := Hw7.out
    have u7 : Upd (· = w.heap.size + 1) w6 w7 := by rw [← e7]; exact updCell _ _ _ _
    have hb7 : Blk w7 (w.heap.size + 1) 66 #[.int .i64 6, .int .i64 a, .int .i64 bb, .int .i64 0] := by rw [← e7]; simpa using hb6.set_ 2 (.int .i64 bb)
    have HSF := Lib.hid (HS6.out.loc u7 (by omega) (by omega))
    have HRF := Lib.hid (HR6.out.upd u7 (by omega))
    have HPF := Lib.hid hb7
    clear hu6 hgu hlu hou huu hru hb6 hb7 HW6
    have HCD : Hid (CdR T fin z u 6 bb 0) := ⟨fun q => absurd q (by omega), fun q => absurd q (by omega), fun _ => ⟨rfl, HRU.out⟩, fun q => absurd q (by omega), HRU.out.2⟩
    have g0 := HPF.out.cell 0
    have g1 := HPF.out.cell 1
    have g2 := HPF.out.cell 2
    have g3 := HPF.out.cell 3
    have hrf := HRF.out
    unfold cdc at hrf
    have r0 := hrf.cell 0
    have r1 := hrf.cell 1
    have r2 := hrf.cell 2
    have r3 := hrf.cell 3
    have rf := hrf.frozen
    have HRF2 := Lib.hid hrf
    clear hrf v0
    go_wp2_with fail
    rw [set4_eq]
    refine bodyPost_ret (results_cell_row rfl _ _ w.heap.size 66 _ (0, 0) _ rfl (set4_blk HRF2.out _ _ _ _) Try.underlying66 rfl (by kernel_rfl)) rfl ?_
    have HSL := HSF.out.loc (set4_upd _ w.heap.size (.int .i64 6) (.int .i64 a) (.int .i64 bb) (.int .i64 0)) (Nat.le_refl _) (by omega)
    exact ⟨⟨6, a, bb, 0⟩, u, rfl, HSL.rd, HGU.out, by rw [HLU.out, hlf], fun j q => (HSL.own j q).imp_right (fun r => by omega), HSL.upd, pcond_fin HRY.out HRZ.out HCD.out⟩
  by_cases h2 : k = 2
  · subst h2
    have CA := Lib.hid (rPatternVar_c hL HS3.out.rd HGY.out HLY.out)
    go_wp2_with fail
    refine CA.out.mono ?_
    rintro e w4 hw4
    have HW4 := Lib.hid hw4
    clear hw4 CA
    obtain ⟨a, z, ev, hz4, hgz, hlz, hoz, huz, hrz⟩ := HW4.out
    subst ev
    have HS4 := Lib.hid (HS3.out.call hz4 hoz huz)
    have hb4 := HS3.out.keep huz (b := w.heap.size + 1) (by omega) (by omega) HP3.out
    have HR4 := Lib.hid (HS3.out.keep huz (b := w.heap.size) (by omega) (by omega) HR3.out)
    have HGZ := Lib.hid hgz
    have HLZ : Hid (z.left = false) := hlz.trans HLY.out
    have HRZ := Lib.hid hrz
    have v1 := hb4.cell 1
    have vf := hb4.frozen 1
    obtain ⟨w5, Hw5⟩ := nm (w4.setCell ⟨w.heap.size + 1, 1, none⟩ (.int .i64 a))
    have e5 := Hw5.out
    have u5 : Upd (· = w.heap.size + 1) w4 w5 := by rw [← e5]; exact updCell _ _ _ _
    have hb5 : Blk w5 (w.heap.size + 1) 66 #[.int .i64 2, .int .i64 a, .int .i64 0, .int .i64 0] := by rw [← e5]; simpa using hb4.set_ 1 (.int .i64 a)
    have HS5 := Lib.hid (HS4.out.loc u5 (by omega) (by omega))
    have HR5 := Lib.hid (HR4.out.upd u5 (by omega))
    have v0 := hb5.cell 0
    have HP5 := Lib.hid hb5
    clear hz4 hgz hlz hoz huz hrz hb4 hb5 HW4
    have HRZ : Hid (ResS y z (if (2 : Int) = 6 then ivarF T fin (psOf y) else pvarF T fin (psOf y)) (fun (v : Nat) => a = (v : Int) ∧ y.i + 1 ≤ z.i)) := by show ResS _ _ _ _; rw [if_neg (by decide)]; exact HRZ.out
    have CA := Lib.hid (rNumber_c hL HS5.out.rd HGZ.out)
    go_wp2_with fail
    refine CA.out.mono ?_
    rintro e w6 hw6
    have HW6 := Lib.hid hw6
    clear hw6 CA e5 v1 vf z0
    obtain ⟨nn, u, ev, hu6, hgu, hlu, hou, huu, hru⟩ := HW6.out
    subst ev
    have HS6 := Lib.hid (HS5.out.call hu6 hou huu)
    have hb6 := HS5.out.keep huu (b := w.heap.size + 1) (by omega) (by omega) HP5.out
    have HR6 := Lib.hid (HS5.out.keep huu (b := w.heap.size) (by omega) (by omega) HR5.out)
    have HGU := Lib.hid hgu
    have HLU : Hid (u.left = false) := hlu.trans HLZ.out
    have HRU := Lib.hid hru
    have q1 := hb6.cell 3
    have qf := hb6.frozen 3
    obtain ⟨w7, Hw7⟩ := nm (w6.setCell ⟨w.heap.size + 1, 3, none⟩ (.int .i64 nn))
    have e7 := Hw7.out
    have u7 : Upd (· = w.heap.size + 1) w6 w7 := by rw [← e7]; exact updCell _ _ _ _
    have hb7 : Blk w7 (w.heap.size + 1) 66 #[.int .i64 2, .int .i64 a, .int .i64 0, .int .i64 nn] := by rw [← e7]; simpa using hb6.set_ 3 (.int .i64 nn)
    have HSF := Lib.hid (HS6.out.loc u7 (by omega) (by omega))
    have HRF := Lib.hid (HR6.out.upd u7 (by omega))
    have HPF := Lib.hid hb7
    clear hu6 hgu hlu hou huu hru hb6 hb7 HW6
    have HCD : Hid (CdR T fin z u 2 0 nn) := ⟨fun _ => ⟨rfl, HRU.out⟩, fun q => absurd q (by omega), fun q => absurd q (by omega), fun q => absurd q (by omega), HRU.out.2⟩
    have g0 := HPF.out.cell 0
    have g1 := HPF.out.cell 1
    have g2 := HPF.out.cell 2
    have g3 := HPF.out.cell 3
    have hrf := HRF.out
    unfold cdc at hrf
    have r0 := hrf.cell 0
    have r1 := hrf.cell 1
    have r2 := hrf.cell 2
    have r3 := hrf.cell 3
    have rf := hrf.frozen
    have HRF2 := Lib.hid hrf
    clear hrf v0
    go_wp2_with fail
    rw [set4_eq]
    refine bodyPost_ret (results_cell_row rfl _ _ w.heap.size 66 _ (0, 0) _ rfl (set4_blk HRF2.out _ _ _ _) Try.underlying66 rfl (by kernel_rfl)) rfl ?_
    have HSL := HSF.out.loc (set4_upd _ w.heap.size (.int .i64 2) (.int .i64 a) (.int .i64 0) (.int .i64 nn)) (Nat.le_refl _) (by omega)
    exact ⟨⟨2, a, 0, nn⟩, u, rfl, HSL.rd, HGU.out, by rw [HLU.out, hlf], fun j q => (HSL.own j q).imp_right (fun r => by omega), HSL.upd, pcond_fin HRY.out HRZ.out HCD.out⟩
  by_cases h3 : k = 3
  · subst h3
    have CA := Lib.hid (rPatternVar_c hL HS3.out.rd HGY.out HLY.out)
    go_wp2_with fail
    refine CA.out.mono ?_
    rintro e w4 hw4
    have HW4 := Lib.hid hw4
    clear hw4 CA
    obtain ⟨a, z, ev, hz4, hgz, hlz, hoz, huz, hrz⟩ := HW4.out
    subst ev
    have HS4 := Lib.hid (HS3.out.call hz4 hoz huz)
    have hb4 := HS3.out.keep huz (b := w.heap.size + 1) (by omega) (by omega) HP3.out
    have HR4 := Lib.hid (HS3.out.keep huz (b := w.heap.size) (by omega) (by omega) HR3.out)
    have HGZ := Lib.hid hgz
    have HLZ : Hid (z.left = false) := hlz.trans HLY.out
    have HRZ := Lib.hid hrz
    have v1 := hb4.cell 1
    have vf := hb4.frozen 1
    obtain ⟨w5, Hw5⟩ := nm (w4.setCell ⟨w.heap.size + 1, 1, none⟩ (.int .i64 a))
    have e5 := Hw5.out
    have u5 : Upd (· = w.heap.size + 1) w4 w5 := by rw [← e5]; exact updCell _ _ _ _
    have hb5 : Blk w5 (w.heap.size + 1) 66 #[.int .i64 3, .int .i64 a, .int .i64 0, .int .i64 0] := by rw [← e5]; simpa using hb4.set_ 1 (.int .i64 a)
    have HS5 := Lib.hid (HS4.out.loc u5 (by omega) (by omega))
    have HR5 := Lib.hid (HR4.out.upd u5 (by omega))
    have v0 := hb5.cell 0
    have HP5 := Lib.hid hb5
    clear hz4 hgz hlz hoz huz hrz hb4 hb5 HW4
    have HRZ : Hid (ResS y z (if (3 : Int) = 6 then ivarF T fin (psOf y) else pvarF T fin (psOf y)) (fun (v : Nat) => a = (v : Int) ∧ y.i + 1 ≤ z.i)) := by show ResS _ _ _ _; rw [if_neg (by decide)]; exact HRZ.out
    have CA := Lib.hid (rNumber_c hL HS5.out.rd HGZ.out)
    go_wp2_with fail
    refine CA.out.mono ?_
    rintro e w6 hw6
    have HW6 := Lib.hid hw6
    clear hw6 CA e5 v1 vf z0
    obtain ⟨nn, u, ev, hu6, hgu, hlu, hou, huu, hru⟩ := HW6.out
    subst ev
    have HS6 := Lib.hid (HS5.out.call hu6 hou huu)
    have hb6 := HS5.out.keep huu (b := w.heap.size + 1) (by omega) (by omega) HP5.out
    have HR6 := Lib.hid (HS5.out.keep huu (b := w.heap.size) (by omega) (by omega) HR5.out)
    have HGU := Lib.hid hgu
    have HLU : Hid (u.left = false) := hlu.trans HLZ.out
    have HRU := Lib.hid hru
    have q1 := hb6.cell 3
    have qf := hb6.frozen 3
    obtain ⟨w7, Hw7⟩ := nm (w6.setCell ⟨w.heap.size + 1, 3, none⟩ (.int .i64 nn))
    have e7 := Hw7.out
    have u7 : Upd (· = w.heap.size + 1) w6 w7 := by rw [← e7]; exact updCell _ _ _ _
    have hb7 : Blk w7 (w.heap.size + 1) 66 #[.int .i64 3, .int .i64 a, .int .i64 0, .int .i64 nn] := by rw [← e7]; simpa using hb6.set_ 3 (.int .i64 nn)
    have HSF := Lib.hid (HS6.out.loc u7 (by omega) (by omega))
    have HRF := Lib.hid (HR6.out.upd u7 (by omega))
    have HPF := Lib.hid hb7
    clear hu6 hgu hlu hou huu hru hb6 hb7 HW6
    have HCD : Hid (CdR T fin z u 3 0 nn) := ⟨fun _ => ⟨rfl, HRU.out⟩, fun q => absurd q (by omega), fun q => absurd q (by omega), fun q => absurd q (by omega), HRU.out.2⟩
    have g0 := HPF.out.cell 0
    have g1 := HPF.out.cell 1
    have g2 := HPF.out.cell 2
    have g3 := HPF.out.cell 3
    have hrf := HRF.out
    unfold cdc at hrf
    have r0 := hrf.cell 0
    have r1 := hrf.cell 1
    have r2 := hrf.cell 2
    have r3 := hrf.cell 3
    have rf := hrf.frozen
    have HRF2 := Lib.hid hrf
    clear hrf v0
    go_wp2_with fail
    rw [set4_eq]
    refine bodyPost_ret (results_cell_row rfl _ _ w.heap.size 66 _ (0, 0) _ rfl (set4_blk HRF2.out _ _ _ _) Try.underlying66 rfl (by kernel_rfl)) rfl ?_
    have HSL := HSF.out.loc (set4_upd _ w.heap.size (.int .i64 3) (.int .i64 a) (.int .i64 0) (.int .i64 nn)) (Nat.le_refl _) (by omega)
    exact ⟨⟨3, a, 0, nn⟩, u, rfl, HSL.rd, HGU.out, by rw [HLU.out, hlf], fun j q => (HSL.own j q).imp_right (fun r => by omega), HSL.upd, pcond_fin HRY.out HRZ.out HCD.out⟩
  by_cases h4 : k = 4
  · subst h4
    have CA := Lib.hid (rPatternVar_c hL HS3.out.rd HGY.out HLY.out)
    go_wp2_with fail
    refine CA.out.mono ?_
    rintro e w4 hw4
    have HW4 := Lib.hid hw4
    clear hw4 CA
    obtain ⟨a, z, ev, hz4, hgz, hlz, hoz, huz, hrz⟩ := HW4.out
    subst ev
    have HS4 := Lib.hid (HS3.out.call hz4 hoz huz)
    have hb4 := HS3.out.keep huz (b := w.heap.size + 1) (by omega) (by omega) HP3.out
    have HR4 := Lib.hid (HS3.out.keep huz (b := w.heap.size) (by omega) (by omega) HR3.out)
    have HGZ := Lib.hid hgz
    have HLZ : Hid (z.left = false) := hlz.trans HLY.out
    have HRZ := Lib.hid hrz
    have v1 := hb4.cell 1
    have vf := hb4.frozen 1
    obtain ⟨w5, Hw5⟩ := nm (w4.setCell ⟨w.heap.size + 1, 1, none⟩ (.int .i64 a))
    have e5 := Hw5.out
    have u5 : Upd (· = w.heap.size + 1) w4 w5 := by rw [← e5]; exact updCell _ _ _ _
    have hb5 : Blk w5 (w.heap.size + 1) 66 #[.int .i64 4, .int .i64 a, .int .i64 0, .int .i64 0] := by rw [← e5]; simpa using hb4.set_ 1 (.int .i64 a)
    have HS5 := Lib.hid (HS4.out.loc u5 (by omega) (by omega))
    have HR5 := Lib.hid (HR4.out.upd u5 (by omega))
    have v0 := hb5.cell 0
    have HP5 := Lib.hid hb5
    clear hz4 hgz hlz hoz huz hrz hb4 hb5 HW4
    have HRZ : Hid (ResS y z (if (4 : Int) = 6 then ivarF T fin (psOf y) else pvarF T fin (psOf y)) (fun (v : Nat) => a = (v : Int) ∧ y.i + 1 ≤ z.i)) := by show ResS _ _ _ _; rw [if_neg (by decide)]; exact HRZ.out
    have CA := Lib.hid (rPatternVar_c hL HS5.out.rd HGZ.out HLZ.out)
    go_wp2_with fail
    refine CA.out.mono ?_
    rintro e w6 hw6
    have HW6 := Lib.hid hw6
    clear hw6 CA e5 v1 vf z0
    obtain ⟨bb, u, ev, hu6, hgu, hlu, hou, huu, hru⟩ := HW6.out
    subst ev
    have HS6 := Lib.hid (HS5.out.call hu6 hou huu)
    have hb6 := HS5.out.keep huu (b := w.heap.size + 1) (by omega) (by omega) HP5.out
    have HR6 := Lib.hid (HS5.out.keep huu (b := w.heap.size) (by omega) (by omega) HR5.out)
    have HGU := Lib.hid hgu
    have HLU : Hid (u.left = false) := hlu.trans HLZ.out
    have HRU := Lib.hid hru
    have q1 := hb6.cell 2
    have qf := hb6.frozen 2
    obtain ⟨w7, Hw7⟩ := nm (w6.setCell ⟨w.heap.size + 1, 2, none⟩ (.int .i64 bb))
    have e7 := Hw7.out
    have u7 : Upd (· = w.heap.size + 1) w6 w7 := by rw [← e7]; exact updCell _ _ _ _
    have hb7 : Blk w7 (w.heap.size + 1) 66 #[.int .i64 4, .int .i64 a, .int .i64 bb, .int .i64 0] := by rw [← e7]; simpa using hb6.set_ 2 (.int .i64 bb)
    have HSF := Lib.hid (HS6.out.loc u7 (by omega) (by omega))
    have HRF := Lib.hid (HR6.out.upd u7 (by omega))
    have HPF := Lib.hid hb7
    clear hu6 hgu hlu hou huu hru hb6 hb7 HW6
    have HCD : Hid (CdR T fin z u 4 bb 0) := ⟨fun q => absurd q (by omega), fun _ => ⟨rfl, HRU.out⟩, fun q => absurd q (by omega), fun q => absurd q (by omega), HRU.out.2⟩
    have g0 := HPF.out.cell 0
    have g1 := HPF.out.cell 1
    have g2 := HPF.out.cell 2
    have g3 := HPF.out.cell 3
    have hrf := HRF.out
    unfold cdc at hrf
    have r0 := hrf.cell 0
    have r1 := hrf.cell 1
    have r2 := hrf.cell 2
    have r3 := hrf.cell 3
    have rf := hrf.frozen
    have HRF2 := Lib.hid hrf
    clear hrf v0
    go_wp2_with fail
    rw [set4_eq]
    refine bodyPost_ret (results_cell_row rfl _ _ w.heap.size 66 _ (0, 0) _ rfl (set4_blk HRF2.out _ _ _ _) Try.underlying66 rfl (by kernel_rfl)) rfl ?_
    have HSL := HSF.out.loc (set4_upd _ w.heap.size (.int .i64 4) (.int .i64 a) (.int .i64 bb) (.int .i64 0)) (Nat.le_refl _) (by omega)
    exact ⟨⟨4, a, bb, 0⟩, u, rfl, HSL.rd, HGU.out, by rw [HLU.out, hlf], fun j q => (HSL.own j q).imp_right (fun r => by omega), HSL.upd, pcond_fin HRY.out HRZ.out HCD.out⟩
  by_cases h5 : k = 5
  · subst h5
    have CA := Lib.hid (rPatternVar_c hL HS3.out.rd HGY.out HLY.out)
    go_wp2_with fail
    refine CA.out.mono ?_
    rintro e w4 hw4
    have HW4 := Lib.hid hw4
    clear hw4 CA
    obtain ⟨a, z, ev, hz4, hgz, hlz, hoz, huz, hrz⟩ := HW4.out
    subst ev
    have HS4 := Lib.hid (HS3.out.call hz4 hoz huz)
    have hb4 := HS3.out.keep huz (b := w.heap.size + 1) (by omega) (by omega) HP3.out
    have HR4 := Lib.hid (HS3.out.keep huz (b := w.heap.size) (by omega) (by omega) HR3.out)
    have HGZ := Lib.hid hgz
    have HLZ : Hid (z.left = false) := hlz.trans HLY.out
    have HRZ := Lib.hid hrz
    have v1 := hb4.cell 1
    have vf := hb4.frozen 1
    obtain ⟨w5, Hw5⟩ := nm (w4.setCell ⟨w.heap.size + 1, 1, none⟩ (.int .i64 a))
    have e5 := Hw5.out
    have u5 : Upd (· = w.heap.size + 1) w4 w5 := by rw [← e5]; exact updCell _ _ _ _
    have hb5 : Blk w5 (w.heap.size + 1) 66 #[.int .i64 5, .int .i64 a, .int .i64 0, .int .i64 0] := by rw [← e5]; simpa using hb4.set_ 1 (.int .i64 a)
    have HS5 := Lib.hid (HS4.out.loc u5 (by omega) (by omega))
    have HR5 := Lib.hid (HR4.out.upd u5 (by omega))
    have v0 := hb5.cell 0
    have HP5 := Lib.hid hb5
    clear hz4 hgz hlz hoz huz hrz hb4 hb5 HW4
    have HRZ : Hid (ResS y z (if (5 : Int) = 6 then ivarF T fin (psOf y) else pvarF T fin (psOf y)) (fun (v : Nat) => a = (v : Int) ∧ y.i + 1 ≤ z.i)) := by show ResS _ _ _ _; rw [if_neg (by decide)]; exact HRZ.out
    have CA := Lib.hid (rImmVar_c hL HS5.out.rd HGZ.out)
    go_wp2_with fail
    refine CA.out.mono ?_
    rintro e w6 hw6
    have HW6 := Lib.hid hw6
    clear hw6 CA e5 v1 vf z0
    obtain ⟨bb, u, ev, hu6, hgu, hlu, hou, huu, hru⟩ := HW6.out
    subst ev
    have HS6 := Lib.hid (HS5.out.call hu6 hou huu)
    have hb6 := HS5.out.keep huu (b := w.heap.size + 1) (by omega) (by omega) HP5.out
    have HR6 := Lib.hid (HS5.out.keep huu (b := w.heap.size) (by omega) (by omega) HR5.out)
    have HGU := Lib.hid hgu
    have HLU : Hid (u.left = false) := hlu.trans HLZ.out
    have HRU := Lib.hid hru
    have q1 := hb6.cell 2
    have qf := hb6.frozen 2
    obtain ⟨w7, Hw7⟩ := nm (w6.setCell ⟨w.heap.size + 1, 2, none⟩ (.int .i64 bb))
    have e7 := Hw7.out
    have u7 : Upd (· = w.heap.size + 1) w6 w7 := by rw [← e7]; exact updCell _ _ _ _
    have hb7 : Blk w7 (w.heap.size + 1) 66 #[.int .i64 5, .int .i64 a, .int .i64 bb, .int .i64 0] := by rw [← e7]; simpa using hb6.set_ 2 (.int .i64 bb)
    have HSF := Lib.hid (HS6.out.loc u7 (by omega) (by omega))
    have HRF := Lib.hid (HR6.out.upd u7 (by omega))
    have HPF := Lib.hid hb7
    clear hu6 hgu hlu hou huu hru hb6 hb7 HW6
    have HCD : Hid (CdR T fin z u 5 bb 0) := ⟨fun q => absurd q (by omega), fun q => absurd q (by omega), fun _ => ⟨rfl, HRU.out⟩, fun q => absurd q (by omega), HRU.out.2⟩
    have g0 := HPF.out.cell 0
    have g1 := HPF.out.cell 1
    have g2 := HPF.out.cell 2
    have g3 := HPF.out.cell 3
    have hrf := HRF.out
    unfold cdc at hrf
    have r0 := hrf.cell 0
    have r1 := hrf.cell 1
    have r2 := hrf.cell 2
    have r3 := hrf.cell 3
    have rf := hrf.frozen
    have HRF2 := Lib.hid hrf
    clear hrf v0
    go_wp2_with fail
    rw [set4_eq]
    refine bodyPost_ret (results_cell_row rfl _ _ w.heap.size 66 _ (0, 0) _ rfl (set4_blk HRF2.out _ _ _ _) Try.underlying66 rfl (by kernel_rfl)) rfl ?_
    have HSL := HSF.out.loc (set4_upd _ w.heap.size (.int .i64 5) (.int .i64 a) (.int .i64 bb) (.int .i64 0)) (Nat.le_refl _) (by omega)
    exact ⟨⟨5, a, bb, 0⟩, u, rfl, HSL.rd, HGU.out, by rw [HLU.out, hlf], fun j q => (HSL.own j q).imp_right (fun r => by omega), HSL.upd, pcond_fin HRY.out HRZ.out HCD.out⟩
  have t2 : (k == 2) = false := by simpa using h2
  have t3 : (k == 3) = false := by simpa using h3
  have t4 : (k == 4) = false := by simpa using h4
  have t5 : (k == 5) = false := by simpa using h5
  have t6 : (k == 6) = false := by simpa using h6
  have CA := Lib.hid (rPatternVar_c hL HS3.out.rd HGY.out HLY.out)
  go_wp2_with fail
  refine CA.out.mono ?_
  rintro e w4 hw4
  have HW4 := Lib.hid hw4
  clear hw4 CA
  obtain ⟨a, z, ev, hz4, hgz, hlz, hoz, huz, hrz⟩ := HW4.out
  subst ev
  have HS4 := Lib.hid (HS3.out.call hz4 hoz huz)
  have hb4 := HS3.out.keep huz (b := w.heap.size + 1) (by omega) (by omega) HP3.out
  have HR4 := Lib.hid (HS3.out.keep huz (b := w.heap.size) (by omega) (by omega) HR3.out)
  have HGZ := Lib.hid hgz
  have HLZ : Hid (z.left = false) := hlz.trans HLY.out
  have HRZ := Lib.hid hrz
  have v1 := hb4.cell 1
  have vf := hb4.frozen 1
  obtain ⟨w5, Hw5⟩ := nm (w4.setCell ⟨w.heap.size + 1, 1, none⟩ (.int .i64 a))
  have e5 := Hw5.out
  have u5 : Upd (· = w.heap.size + 1) w4 w5 := by rw [← e5]; exact updCell _ _ _ _
  have hb5 : Blk w5 (w.heap.size + 1) 66 #[.int .i64 k, .int .i64 a, .int .i64 0, .int .i64 0] := by rw [← e5]; simpa using hb4.set_ 1 (.int .i64 a)
  have HS5 := Lib.hid (HS4.out.loc u5 (by omega) (by omega))
  have HR5 := Lib.hid (HR4.out.upd u5 (by omega))
  have v0 := hb5.cell 0
  have HP5 := Lib.hid hb5
  clear hz4 hgz hlz hoz huz hrz hb4 hb5 HW4
  have HRZ : Hid (ResS y z (if k = 6 then ivarF T fin (psOf y) else pvarF T fin (psOf y)) (fun (v : Nat) => a = (v : Int) ∧ y.i + 1 ≤ z.i)) := by show ResS _ _ _ _; rw [if_neg h6]; exact HRZ.out
  have HCD : Hid (CdR T fin z z k 0 0) := ⟨fun q => absurd q (by omega), fun q => absurd q h4, fun q => absurd q (by omega), fun _ => ⟨rfl, rfl, rfl⟩, fun _ => ⟨rfl, rfl⟩⟩
  have HPF := HP5
  have HRF := HR5
  have HSF := HS5
  have HGU := HGZ
  have HLU := HLZ
  have g0 := HPF.out.cell 0
  have g1 := HPF.out.cell 1
  have g2 := HPF.out.cell 2
  have g3 := HPF.out.cell 3
  have hrf := HRF.out
  unfold cdc at hrf
  have r0 := hrf.cell 0
  have r1 := hrf.cell 1
  have r2 := hrf.cell 2
  have r3 := hrf.cell 3
  have rf := hrf.frozen
  have HRF2 := Lib.hid hrf
  clear hrf v0
  go_wp2_with fail
  rw [set4_eq]
  refine bodyPost_ret (results_cell_row rfl _ _ w.heap.size 66 _ (0, 0) _ rfl (set4_blk HRF2.out _ _ _ _) Try.underlying66 rfl (by kernel_rfl)) rfl ?_
  have HSL := HSF.out.loc (set4_upd _ w.heap.size (.int .i64 k) (.int .i64 a) (.int .i64 0) (.int .i64 0)) (Nat.le_refl _) (by omega)
  exact ⟨⟨k, a, 0, 0⟩, z, rfl, HSL.rd, HGU.out, by rw [HLU.out, hlf], fun j q => (HSL.own j q).imp_right (fun r => by omega), HSL.upd, pcond_fin HRY.out HRZ.out HCD.out⟩
end Go.Proofs.Ytblkgjdhaibhgaa
