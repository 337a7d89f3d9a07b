/-
  PolynomialShift returns true.
-/
import Derived.Test.YtnefhokojbkppaaPLaw
namespace Go.Proofs.Ytnefhokojbkppaa
open Go.RowKit

set_option maxRecDepth 100000 in
set_option maxHeartbeats 4000000 in
theorem poShift_c (w : World) (F : Nat → Prop) (A : Option Addr) (c : Nat) (xs : List Int) (k : Int) (hx : Ints w F A xs) (hc : xs.length ≤ c) (hn : xs.length ≤ 100000000000000) :
    Calls Try.prog 6 #[.slice A xs.length c, .int .i64 k] w fun e w' => e = .returned (.bool true) ∧ Upd Non w w' := by
  have C1 := Lib.hid (pick_c k 64 w (by omega) (by omega))
  obtain ⟨i, Hi⟩ := nm (k % 64)
  have hi0 : 0 ≤ i := by rw [← Hi.out]; omega
  have hi1 : i < 64 := by rw [← Hi.out]; omega
  rw [Hi.out] at C1
  have hm6 : (xs.take 6).length = min 6 xs.length := by simp
  have C2 := Lib.hid (pattern_c w F A c (xs.take 6) 3 (by omega) (by omega) (hx.take_ 6) (by omega) (by omega))
  obtain ⟨m, Hm⟩ := nm (xs.take 6).length
  rw [Hm.out] at C2 hm6
  rw [show ((3 : Nat) : Int) = 3 from rfl] at C2
  obtain ⟨l, Hl⟩ := nm xs.length
  rw [Hl.out] at hm6 hc
  rw [Hl.out]
  have hmin : (min (l : Int) 6).toNat = m := by omega
  clear hx hm6
  go_enter Try.func6, Try.ntmps6
  go_wp2_with fail
  refine C1.out.mono ?_
  rintro e w0 ⟨rfl, rfl⟩
  go_wp2_with fail
  try rw [hmin]
  refine C2.out.mono ?_
  rintro e w1 ⟨q, KA, kc, rfl, hq, hqs, hqk, hu1⟩
  obtain ⟨W1, HW1⟩ := nm (w1.alloc (.cells #[.int .i64 q.v, .int .i64 q.op, .int .i64 q.imm, .int .i64 q.iv, .slice KA q.kids.length kc] 24))
  have e1 := HW1.out
  have hU1 : Upd Non w W1 := by rw [← e1]; exact hu1.alloc _
  have uA : Upd Non w1 W1 := by rw [← e1]; exact Upd.refl.alloc _
  have hb1 : Blk W1 w1.heap.size 24 #[.int .i64 q.v, .int .i64 q.op, .int .i64 q.imm, .int .i64 q.iv, .slice KA q.kids.length kc] := by rw [← e1]; exact Blk.new _ _ _
  have hk1 := PtK.upd uA (fun _ _ _ f => f) _ _ _ hqk
  unfold pv
  have c0 := hb1.cell 0
  have c1 := hb1.cell 1
  have c2 := hb1.cell 2
  have c3 := hb1.cell 3
  have c4 := hb1.cell 4
  have C3 : Hid (Calls Try.prog 16 #[.int .i64 12, .agg #[.int .i64 q.v, .int .i64 q.op, .int .i64 q.imm, .int .i64 q.iv, .slice KA q.kids.length kc], .agg #[.int .i64 0, .int .i64 1, .int .i64 i, .int .i64 0, .slice none 0 0]] W1 _) := op_c W1 12 q (.mk 0 1 i 0 []) _ (fun _ => False) KA none kc 0 hk1 PtK.leaf
  clear C1 C2 hu1 uA
  go_wp2_with fail
  refine C3.out.mono ?_
  rintro e w2 ⟨K2, d2, rfl, hk2, hu2⟩
  have C4 := Lib.hid (norm2_c 12 q (.mk 0 1 i 0 []) w2 _ K2 d2 3 hk2 (by rw [Pt.size_leaf]; omega))
  clear C3
  obtain ⟨o1, Ho1⟩ := nm (normF (.mk 0 12 0 0 [q, .mk 0 1 i 0 []]) 3)
  obtain ⟨o2, Ho2⟩ := nm (normF (.mk 0 6 0 0 [q, .mk 0 1 (wrap64 (2 ^ i.toNat)) 0 []]) 3)
  have HO := Lib.hid (norm_shift q hq i hi0 hi1)
  obtain ⟨j, Hj⟩ := nm (wrap64 (2 ^ i.toNat))
  have hj := Hj.out
  rw [Hj.out] at HO Ho2
  rw [Ho1.out, Ho2.out] at HO
  rw [Ho1.out] at C4
  go_wp2_with fail
  refine C4.out.mono ?_
  rintro e w3 ⟨r1, A1, c1, rfl, hv1, hz1, hu3⟩
  have hU3 := (hU1.then_non hu2).then_non hu3
  have uB := hu2.then_non hu3
  have hb3 := hb1.upd uB (fun f => f)
  have hk3 := PtK.upd uB (fun _ _ _ f => f) _ _ _ hk1
  have c0 := hb3.cell 0
  have c1' := hb3.cell 1
  have c2 := hb3.cell 2
  have c3 := hb3.cell 3
  have c4 := hb3.cell 4
  have HZ1 := Lib.hid hz1
  clear C4 hb1 hk1 hu2 hu3 uB hz1
  go_wp2_with fail
  have C5 : Hid (Calls Try.prog 16 #[.int .i64 6, .agg #[.int .i64 q.v, .int .i64 q.op, .int .i64 q.imm, .int .i64 q.iv, .slice KA q.kids.length kc], .agg #[.int .i64 0, .int .i64 1, .int .i64 j, .int .i64 0, .slice none 0 0]] w3 _) := op_c w3 6 q (.mk 0 1 j 0 []) _ (fun _ => False) KA none kc 0 hk3 PtK.leaf
  refine C5.out.mono ?_
  rintro e w4 ⟨K4, d4, rfl, hk4, hu4⟩
  have C6 := Lib.hid (norm2_c 6 q (.mk 0 1 j 0 []) w4 _ K4 d4 3 hk4 (by rw [Pt.size_leaf]; omega))
  rw [Ho2.out] at C6
  clear C5
  go_wp2_with fail
  refine C6.out.mono ?_
  rintro e w5 ⟨r2, A2, c2, rfl, hv2, hz2, hu5⟩
  have hz1 := HZ1.out
  obtain ⟨ho, hr⟩ := same_of hz1 hz2 HO.out
  rw [← hr] at hv2
  rw [← hr, ← ho]
  have u45 := hu4.then_non hu5
  have C7 := Lib.hid (samePoly_c w5 _ _ A1 A2 c1 c2 (mns r1) (mns r1) (hv1.upd u45 (fun _ _ _ f => f)) hv2 (fun m hm => by have := hz1.2.1 m hm; omega) (by have := hz1.1; omega))
  obtain ⟨n1, Hn1⟩ := nm (mns r1).length
  rw [Hn1.out] at C7
  rw [Hn1.out]
  rw [show decide (mns r1 = mns r1) = true from decide_eq_true rfl] at C7
  obtain ⟨b1, Hb1⟩ := nm o1.isSome
  rw [Hb1.out]
  have hU5 := hU3.then_non u45
  clear C6 hv1 hv2 hz1 hz2 hr ho hu4 hu5 u45 hk4
  go_wp2_with fail
  refine C7.out.mono ?_
  rintro e w6 ⟨rfl, hu6⟩
  have C8 := Lib.hid (poExamples_c w6)
  go_wp2_with fail
  refine C8.out.mono ?_
  rintro e w7 ⟨rfl, hu7⟩
  go_wp2_with fail
  go_ret
  exact ⟨rfl, (hU5.then_non hu6).then_non hu7⟩
end Go.Proofs.Ytnefhokojbkppaa
