/-
  RulesExamples walked.
-/
import Derived.Test.YtblkgjdhaibhgaaAxmE
namespace Go.Proofs.Ytblkgjdhaibhgaa
open Go.RowKit

def riB (r : Rl) : Bool := (nodes r.l).all (fun q => decide (-9223372036854775808 ≤ q.imm ∧ q.imm ≤ 9223372036854775807)) && (nodes r.r).all (fun q => decide (-9223372036854775808 ≤ q.imm ∧ q.imm ≤ 9223372036854775807)) && r.conds.all (fun c => decide (-9223372036854775808 ≤ c.n ∧ c.n ≤ 9223372036854775807))
theorem riB_ok {r : Rl} (h : riB r = true) : RlI r := by
  simp only [riB, Bool.and_eq_true, List.all_eq_true, decide_eq_true_eq] at h
  exact ⟨fun q hq => h.1.1 q hq, fun q hq => h.1.2 q hq, fun q hq => h.2 q hq⟩
theorem szB_ok {r : Rl} (h : szB r = true) : RlSz r := by
  simp only [szB, Bool.and_eq_true, decide_eq_true_eq] at h
  exact ⟨h.1.1.1, h.1.1.2, h.1.2, h.2⟩
theorem ktl (l : Bs) : (kstr l).toList = l := by rw [ByteArray.toList_eq]; rfl
def exT1 : Bs := [114, 117, 108, 101, 32, 122, 101, 114, 111, 58, 32, 40, 97, 100, 100, 32, 63, 120, 32, 48, 41, 32, 61, 62, 32, 63, 120, 59, 32, 47, 47, 32, 115, 111]
def exT2 : Bs := [97, 120, 105, 111, 109, 32, 110, 111, 116, 104, 105, 110, 103, 59]
def exP : Bs := [114, 117, 108, 101, 32, 122, 101, 114, 111, 58, 32, 40, 97, 100, 100, 32, 63, 97, 32, 48, 41, 32, 61, 62, 32, 63, 97, 59, 10]
theorem ex1 : (match parseF exT1 with | .ok [r] => decide (kx r.name = [122, 101, 114, 111]) && decide (r.vars = 1) && decide (printF [r] = exP) && szB r && riB r | _ => false) = true := by decide +kernel
theorem ex2 : (match parseF exT2 with | .error e => decide (e.1 = 3) && decide (e.2 = 6) | _ => false) = true := by decide +kernel
theorem ex1' : ∃ r, parseF exT1 = .ok [r] ∧ r.name = kstr [122, 101, 114, 111] ∧ r.vars = 1 ∧ printF [r] = exP ∧ RlSz r ∧ RlI r := by
  have h := ex1
  split at h
  · rename_i r he
    simp only [Bool.and_eq_true, decide_eq_true_eq] at h
    exact ⟨r, he, by apply kx_inj; rw [kx_kstr]; exact h.1.1.1.1, h.1.1.1.2, h.1.1.2, szB_ok h.1.2, riB_ok h.2⟩
  · cases h
theorem ex2' : parseF exT2 = .error (3, 6) := by
  have h := ex2
  split at h
  · rename_i e he
    simp only [Bool.and_eq_true, decide_eq_true_eq] at h
    rw [he]
    obtain ⟨a, b⟩ := e
    rw [show a = 3 from h.1, show b = 6 from h.2]
  · cases h
set_option maxRecDepth 100000 in
set_option maxHeartbeats 1000000 in
theorem RuExamples_c (w : World) : Calls Try.prog 3 #[] w fun e w' => e = .returned (.bool true) ∧ Upd Non w w' := by
  obtain ⟨r, hp, hnm, hvr, hpr, hsz, hri⟩ := ex1'
  have C1 := Lib.hid (rParse_all (kstr exT1) w)
  rw [kx_kstr, hp] at C1
  have C2 := Lib.hid (fun W => rParse_all (kstr exT2) W)
  have CX := Lib.hid (fun W => rAxioms_c W)
  have HP := Lib.hid hpr
  have HS := Lib.hid hsz
  have HI := Lib.hid hri
  clear hp hpr hsz hri
  go_enter Try.func3, Try.ntmps3
  go_wp2_with fail
  refine C1.out.mono ?_
  rintro e w1 ⟨u1, h⟩
  rcases h with ⟨er, h, _⟩ | ⟨Q, A, c, h, rfl, hv, hle⟩
  · cases h
  injection h with h
  subst h
  have hs1 := u1.size
  have HU1 := Lib.hid u1
  have HV := Lib.hid hv
  clear u1 hv hle
  obtain ⟨W2, HW2⟩ := nm (w1.alloc (.cells #[.int .i64 0, .int .i64 0] 25))
  have u2 : Upd Non w1 W2 := by rw [← HW2.out]; exact Upd.refl.alloc _
  have b2 : Blk W2 w1.heap.size 25 #[.int .i64 0, .int .i64 0] := by rw [← HW2.out]; exact Blk.new _ _ _
  have C22 := Lib.hid (C2.out W2)
  rw [kx_kstr, ex2'] at C22
  go_upto_region 2 with fail
  rw [HW2.out]
  go_wp2_with fail
  refine C22.out.mono ?_
  rintro e w3 ⟨u3, h⟩
  rcases h with ⟨er, h, rfl⟩ | ⟨Q, A, c, h, _⟩
  rotate_left
  · cases h
  injection h with h
  subst h
  have b3 := b2.upd u3 (fun f => f)
  obtain ⟨W4, HW4⟩ := nm (w3.alloc (.cells #[.int .i64 3, .int .i64 6] 25))
  have u4 : Upd Non w3 W4 := by rw [← HW4.out]; exact Upd.refl.alloc _
  have b4 : Blk W4 w3.heap.size 25 #[.int .i64 3, .int .i64 6] := by rw [← HW4.out]; exact Blk.new _ _ _
  have b5 := b3.upd u4 (fun f => f)
  have U4 := (u2.then_non u3).then_non u4
  have HB4 := Lib.hid b4
  have HB5 := Lib.hid b5
  have HU4 := Lib.hid U4
  have hV := HV.out.upd U4 (fun _ _ _ f => f)
  obtain ⟨b, o, a, rfl, _, hbw, hat, _⟩ := hV.at_ (i := 0) (by simp)
  have CP := Lib.hid (rPrint_c W4 _ _ c [r] hV (fun x hx => by rw [List.mem_singleton] at hx; rw [hx]; exact HS.out) (fun x hx => by rw [List.mem_singleton] at hx; rw [hx]; exact HI.out) (by simp))
  rw [HP.out] at CP
  unfold RlAt at hat
  rw [List.getElem_cons_zero, Nat.zero_mul, Nat.add_zero, hnm, hvr] at hat
  obtain ⟨x0, _, _, _, _, _, _, _, _, _, _, _, x12, _⟩ := hat
  go_upto_region 3 with fail
  rw [HW4.out]
  have y0 := b5.cell 0
  have y1 := b5.cell 1
  have z0 := b4.cell 0
  have z1 := b4.cell 1
  clear C1 C2 C22 HW2 HW4 b2 b3 b4 b5 u2 u3 u4 U4
  have hq1 : ((kstr [122, 101, 114, 111]).toList == [122, 101, 114, 111]) = true := by rw [ktl]; rfl
  have hq2 : ((kstr exP).toList == [114, 117, 108, 101, 32, 122, 101, 114, 111, 58, 32, 40, 97, 100, 100, 32, 63, 97, 32, 48, 41, 32, 61, 62, 32, 63, 97, 59, 10]) = true := by rw [ktl]; rfl
  obtain ⟨nz, Hnz⟩ := nm (kstr [122, 101, 114, 111])
  obtain ⟨ps, Hps⟩ := nm (kstr exP)
  rw [Hnz.out] at x0 hq1
  rw [Hps.out] at CP hq2
  go_wp2_with fail
  refine CP.out.mono ?_
  rintro e w5 ⟨rfl, u5⟩
  have z0 := cell_upd z0 u5 (fun f => f)
  have z1 := cell_upd z1 u5 (fun f => f)
  have CA := Lib.hid (CX.out w5)
  have HU5 := Lib.hid (HU4.out.then_non u5)
  clear CP x0 x12 y0 y1
  go_wp2_with fail
  refine CA.out.mono ?_
  rintro e w6 ⟨A6, c6, rfl, _, _, u6⟩
  clear CA z0 z1
  go_wp2_with fail
  go_ret
  exact ⟨rfl, (HU1.out.then_non HU5.out).then_non u6⟩
end Go.Proofs.Ytblkgjdhaibhgaa
