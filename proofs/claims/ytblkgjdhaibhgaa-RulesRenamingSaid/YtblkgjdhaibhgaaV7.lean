/-
  Lemmas and walks that the claim rests on, part 7 (packed by a program).
-/
import Derived.Test.YtblkgjdhaibhgaaV6
import Derived.Test.YtblkgjdhaibhgaaV5
namespace Go.Proofs.Ytblkgjdhaibhgaa
open Go.RowKit
end Go.Proofs.Ytblkgjdhaibhgaa
namespace Go.Proofs.Ytblkgjdhaibhgaa
open Go.RowKit
set_option maxRecDepth 100000 in
set_option maxHeartbeats 4000000 in
theorem rItem_c {L : List Tok} {T : List (Bs × Nat)} {fin : Nat} (hL : LOk L T fin) (ax : Bs → Option Rl)
  (HAX : Hid ((∃ i, tkF T i = some [97, 120, 105, 111, 109]) → ∀ (s : Bs) (w : World), Calls Try.prog 10 #[.string (kstr s)] w (AxP ax s w)))
  {w : World} {p : Nat} {A : Option Addr} {c : Nat} {x : St} (h : RdS w p A c L x) (hx : Good T x) :
  Calls Try.prog 18 #[.pointer (some ⟨p, 0, none⟩)] w (ItemP T w p A c L x (itemF T fin ax (psOf x))) := by
 have hiL : x.i < L.length := by have := hL.lt; have := hx.1; omega
 have hLl := hL.len
 obtain ⟨r, Hr⟩ := nm (itemF T fin ax (psOf x))
 rw [Hr.out]
 obtain ⟨W1, HW1⟩ := nm (w.alloc (.cells #[.string ⟨#[]⟩, .int .i64 0, .int .i64 0, .int .i64 0, .int .i64 0, .slice none 0 0, .int .i64 0, .int .i64 0, .int .i64 0, .int .i64 0, .slice none 0 0, .slice none 0 0, .int .i64 0, .int .i64 0] 33))
 have u1 : Upd Non w W1 := by rw [← HW1.out]; exact Upd.refl.alloc _
 have b1 : Blk W1 w.heap.size 33 z14 := by rw [← HW1.out]; exact Blk.new _ _ _
 have s1 : W1.heap.size = w.heap.size + 1 := by rw [← HW1.out]; simp
 obtain ⟨W2, HW2⟩ := nm (W1.alloc (.cells #[.string ⟨#[]⟩, .int .i64 0, .bool false] 60))
 have u2 : Upd Non W1 W2 := by rw [← HW2.out]; exact Upd.refl.alloc _
 have b2 : Blk W2 (w.heap.size + 1) 60 z3 := by rw [← HW2.out, ← s1]; exact Blk.new _ _ _
 have s2 : W2.heap.size = w.heap.size + 2 := by rw [← HW2.out]; simp [s1]
 have b1 := b1.upd u2 (fun f => f)
 have U2 := u1.then_non u2
 have e1 := HW1.out
 have e2 := HW2.out
 have HS2 : Hid (LocP (P2 w.heap.size) w W2 p A c L x x) := (LocP.start h).turn U2 (fun _ _ f => f.elim) (fun k q => .inr (by rcases q with q | q <;> omega))
 have CI := Lib.hid (rIs_c HS2.out.rd hiL [97, 120, 105, 111, 109])
 rw [hL.tk hx.1] at CI
 have HX := Lib.hid hx
 have HB1 := Lib.hid b1
 have HB2 := Lib.hid b2
 have hpw : p < w.heap.size := h.blk.lt
 obtain ⟨z, Hz⟩ := nm (x.why == 0 && decide (tkF T x.i = some [97, 120, 105, 111, 109]))
 rw [Hz.out] at CI
 clear h b1 b2 u1 u2 U2 HW1 HW2 hx
 go_enter Try.func18, Try.ntmps18
 go_wp2_with fail
 refine CI.out.mono ?_
 rintro e w3 ⟨rfl, hu3⟩
 have HS3 := Lib.hid (HS2.out.non hu3)
 have HB3 := Lib.hid (HB1.out.upd hu3 (fun f => f))
 have HK3 := Lib.hid (HB2.out.upd hu3 (fun f => f))
 have s3 := hu3.size
 clear CI HS2 HB1 HB2 hu3 e1 e2
 cases z with
 | true =>
  have hz := Hz.out
  simp only [Bool.and_eq_true, beq_iff_eq, decide_eq_true_eq] at hz
  have H0 : Hid (x.why = 0) := hz.1
  have HTK : Hid (tkF T x.i = some [97, 120, 105, 111, 109]) := hz.2
  have hiT := tkF_lt hz.2
  obtain ⟨c0, c1, c2, c3, c4, c5, c6⟩ := HS3.out.rd.cells
  have cf := HS3.out.rd.blk.frozen
  have hlt5 : x.i < 100000 := by omega
  obtain ⟨i, Hi⟩ := nm x.i
  rw [Hi.out] at c1 hlt5
  obtain ⟨W4, HW4⟩ := nm (w3.setCell ⟨p, 1, none⟩ (.int .i64 ((i : Int) + 1)))
  have e4 := HW4.out
  have u4 : Upd (· = p) w3 W4 := by rw [← e4]; exact updCell _ _ _ _
  have h4 : RdS W4 p A c L { x with i := x.i + 1 } := by
   have := HS3.out.rd.setI (x.i + 1)
   rw [Hi.out] at this ⊢
   rw [← e4]; exact this
  have HS4 : Hid (LocP (P2 w.heap.size) w W4 p A c L x { x with i := x.i + 1 }) := HS3.out.call h4 (fun _ q => .inl q) (u4.mono (fun _ _ e => .inl e))
  have HB4 := Lib.hid (HB3.out.upd u4 (by omega))
  have HK4 := Lib.hid (HK3.out.upd u4 (by omega))
  have HG4 : Hid (Good T { x with i := x.i + 1 }) := ⟨hiT, fun _ => by have := HX.out.2 hz.1; exact ⟨Nat.le_succ_of_le this.1, Nat.le_succ_of_le this.2⟩⟩
  have CW := Lib.hid (rWordA_c hL HS4.out.rd HG4.out HB4.out hpw)
  have hs4 := u4.size
  clear hz c0 c2 c3 c4 c5 c6 h4 u4
  go_wp2_with fail
  refine CW.out.mono ?_
  rintro e w5 hw5
  have HW5 := Lib.hid hw5
  clear hw5 CW c1 cf e4
  obtain ⟨_, y, ts, tp, ev, htt, hb5, hy5, hg5, _, ho5, hu5, hr5⟩ := HW5.out
  subst ev
  have HS5 : Hid (LocP (P2 w.heap.size) w w5 p A c L x y) := HS4.out.callP hy5 ho5 (hu5.mono (fun _ _ q => q.imp_right .inl))
  have HB5 := Lib.hid hb5
  have HK5 := Lib.hid (HK4.out.upd hu5 (fun q => by
   rcases q with q | q
   ·
    exact (HS4.out.pr _ (.inr rfl)).2.2 q
   ·
    omega))
  have HG5 := Lib.hid hg5
  have HR5 := Lib.hid (any_res hr5 (fun q => (htt q).1))
  have HTP : Hid (y.why = 0 → tp = offF T fin (x.i + 1)) := fun q => by rw [(htt q).2]; exact hL.pos hiT
  have hs5 := hu5.size
  have hyl : y.i < L.length := by have := hL.lt; have := hg5.1; omega
  obtain ⟨W6, HW6⟩ := nm (w5.alloc (.cells #[.string (kstr ts), .int .i64 tp, .bool false] 60))
  have e6 := HW6.out
  have u6 : Upd Non w5 W6 := by rw [← e6]; exact Upd.refl.alloc _
  have b6 : Blk W6 w5.heap.size 60 #[.string (kstr ts), .int .i64 tp, .bool false] := by rw [← e6]; exact Blk.new _ _ _
  have s6 : W6.heap.size = w5.heap.size + 1 := by rw [← e6]; simp
  clear hb5 hy5 hg5 ho5 hu5 hr5 htt HW5 HB4 HK4 HG4 HS4 HB3 HK3
  unfold tokVal
  clear e6
  go_upto_region 5 with fail
  rw [HW6.out]
  have HS6 := Lib.hid (HS5.out.non u6)
  have HB6 := Lib.hid (HB5.out.upd u6 (fun f => f))
  have HK6 := Lib.hid (HK5.out.upd u6 (fun f => f))
  have CE := Lib.hid (rExpect_c HS6.out.rd hyl hLl [59])
  have HT6 := Lib.hid b6
  clear HW6 b6 u6 HS5 HB5 HK5
  go_wp2_with fail
  refine CE.out.mono ?_
  rintro e w7 ⟨rfl, hy7, hu7⟩
  have HS7 : Hid (LocP (P2 w.heap.size) w w7 p A c L x (y.exp L [59])) := HS6.out.call hy7 (fun _ hk => .inl ((exp_own _ _).1 hk)) (hu7.mono (fun _ _ e => .inl e))
  have HLT : Hid (∀ k, St.own (y.exp L [59]) p k → k < w7.heap.size) := fun k q => hy7.lt q
  have HB7 := Lib.hid (HB6.out.upd hu7 (by omega))
  have HK7 := Lib.hid (HK6.out.upd hu7 (by omega))
  have b7 := HT6.out.upd hu7 (by omega)
  have hs7 := hu7.size
  have v0 := b7.cell 0
  have HT7 := Lib.hid b7
  have CX := Lib.hid (HAX.out ⟨x.i, HTK.out⟩ ts w7)
  clear b7 hy7 hu7 CE HS6 HB6 HK6 HT6
  go_wp2_with fail
  refine CX.out.mono ?_
  rintro e w8 ⟨rl, a, b, rfl, hk8, hu8, ha1, ha2⟩
  have HS8 := Lib.hid (HS7.out.non hu8)
  have HB8 := Lib.hid (HB7.out.upd hu8 (fun f => f))
  have HK8 := Lib.hid (HK7.out.upd hu8 (fun f => f))
  have HT8 := Lib.hid (HT7.out.upd hu8 (fun f => f))
  have HRK := Lib.hid hk8
  have HAB : Hid ((b = true → ax ts = some rl) ∧ (b = false → ax ts = none)) := ⟨ha1, ha2⟩
  have hs8 := hu8.size
  obtain ⟨W9, HW9⟩ := nm (w8.alloc (.cells (rlCells rl a) 33))
  have u9 : Upd Non w8 W9 := by rw [← HW9.out]; exact Upd.refl.alloc _
  have b9 : Blk W9 w8.heap.size 33 (rlCells rl a) := by rw [← HW9.out]; exact Blk.new _ _ _
  have s9 : W9.heap.size = w8.heap.size + 1 := by rw [← HW9.out]; simp
  clear CX v0 hk8 hu8 ha1 ha2 HS7 HB7 HK7 HT7
  unfold rlv rlCells
  unfold rlCells at HW9
  go_upto_region 7 with fail
  rw [show w8.alloc _ = W9 from HW9.out]
  obtain ⟨wD, HwD⟩ := nm W9.drew
  have uD : Upd Non W9 wD := by rw [← HwD.out]; exact Upd.refl.drew
  have HS := Lib.hid ((HS8.out.non u9).non uD)
  have HB := Lib.hid ((HB8.out.upd u9 (fun f => f)).upd uD (fun f => f))
  have HK := Lib.hid ((HK8.out.upd u9 (fun f => f)).upd uD (fun f => f))
  have HT := Lib.hid ((HT8.out.upd u9 (fun f => f)).upd uD (fun f => f))
  have HR := Lib.hid (b9.upd uD (fun f => f))
  have HRK := Lib.hid ((HRK.out.upd u9 (fun _ _ _ f => f)).upd uD (fun _ _ _ f => f))
  refine wp_region_held_drew (S := fun w' => w'.cell? ⟨w8.heap.size, 0, none⟩ = some (.string rl.name) ∧ w'.cell? ⟨w8.heap.size, 1, none⟩ = some (.int .i64 rl.l.v) ∧ w'.cell? ⟨w8.heap.size, 2, none⟩ = some (.int .i64 rl.l.op) ∧ w'.cell? ⟨w8.heap.size, 3, none⟩ = some (.int .i64 rl.l.imm) ∧ w'.cell? ⟨w8.heap.size, 4, none⟩ = some (.int .i64 rl.l.iv) ∧ w'.cell? ⟨w8.heap.size, 5, none⟩ = some (.slice a.la rl.l.kids.length a.lc) ∧ w'.cell? ⟨w8.heap.size, 6, none⟩ = some (.int .i64 rl.r.v) ∧ w'.cell? ⟨w8.heap.size, 7, none⟩ = some (.int .i64 rl.r.op) ∧ w'.cell? ⟨w8.heap.size, 8, none⟩ = some (.int .i64 rl.r.imm) ∧ w'.cell? ⟨w8.heap.size, 9, none⟩ = some (.int .i64 rl.r.iv) ∧ w'.cell? ⟨w8.heap.size, 10, none⟩ = some (.slice a.ra rl.r.kids.length a.rc) ∧ w'.cell? ⟨w8.heap.size, 11, none⟩ = some (.slice a.ca rl.conds.length a.cc) ∧ w'.cell? ⟨w8.heap.size, 12, none⟩ = some (.int .i64 rl.vars) ∧ w'.cell? ⟨w8.heap.size, 13, none⟩ = some (.int .i64 rl.imms) ∧ w'.cell? ⟨w5.heap.size, 0, none⟩ = some (.string (kstr ts)) ∧ w'.cell? ⟨w5.heap.size, 1, none⟩ = some (.int .i64 (tp : Nat)) ∧ w'.cell? ⟨w5.heap.size, 2, none⟩ = some (.bool false)) (by kernel_rfl) (by rw [HwD.out]; exact rt_cells HR.out HT.out) (fun hHeld => ?_)
  rw [HwD.out] at hHeld ⊢
  clear b9 u9 HS8 HB8 HK8 HT8 HW9
  refine wpT 0 ?_
  try simp only [put_y]
  try simp only [Act.put]
  try simp only [put_z]
  refine wpT 1 ?_
  try simp only [put_y]
  try simp only [Act.put]
  try simp only [put_z]
  refine wpT 2 ?_
  try simp only [put_y]
  try simp only [Act.put]
  try simp only [put_z]
  have b0 := HB.out
  unfold z14 at b0
  have z0 := b0.cell 0
  have z1 := b0.cell 1
  have z2 := b0.cell 2
  have z3 := b0.cell 3
  have z4 := b0.cell 4
  have z5 := b0.cell 5
  have z6 := b0.cell 6
  have z7 := b0.cell 7
  have z8 := b0.cell 8
  have z9 := b0.cell 9
  have z10 := b0.cell 10
  have z11 := b0.cell 11
  have z12 := b0.cell 12
  have z13 := b0.cell 13
  have zf := b0.frozen
  refine wpAnyH_ready (rs := [3]) (by kernel_rfl) (by simp) ?_
  refine AllReadyH.cons rfl (fun K hK => ?_) AllReadyH.nil
  go_simp
  rw [set14_eq]
  obtain ⟨W10, HW10⟩ := nm (set14 wD w.heap.size (.string rl.name) (.int .i64 rl.l.v) (.int .i64 rl.l.op) (.int .i64 rl.l.imm) (.int .i64 rl.l.iv) (.slice a.la rl.l.kids.length a.lc) (.int .i64 rl.r.v) (.int .i64 rl.r.op) (.int .i64 rl.r.imm) (.int .i64 rl.r.iv) (.slice a.ra rl.r.kids.length a.rc) (.slice a.ca rl.conds.length a.cc) (.int .i64 rl.vars) (.int .i64 rl.imms))
  rw [HW10.out]
  have u10 : Upd (· = w.heap.size) wD W10 := by rw [← HW10.out]; exact set14_upd _ _ _ _ _ _ _ _ _ _ _ _ _ _ _ _
  have hb10 : Blk W10 w.heap.size 33 (rlCells rl a) := by rw [← HW10.out]; exact set14_blk b0 _ _ _ _ _ _ _ _ _ _ _ _ _ _
  have HS10 := Lib.hid (HS.out.turn (P' := P2 w.heap.size) u10 (fun _ _ e => .inl e) (fun _ q => .inl q))
  have HK10 := Lib.hid (HK.out.upd u10 (by omega))
  have HT10 := Lib.hid (HT.out.upd u10 (by omega))
  have HR10 := Lib.hid (HR.out.upd u10 (by omega))
  have HRK10 := Lib.hid (HRK.out.upd u10 (fun k _ q e => by omega))
  have HB10 := Lib.hid hb10
  refine hK.out _ _ ?_ (fun hHeld => ?_)
  ·
   exact rt_cells HR10.out HT10.out
  clear hK K
  try simp only [put_y]
  try simp only [Act.put]
  try simp only [put_z]
  clear b0 zf z0 z1 z2 z3 z4 z5 z6 z7 z8 z9 z10 z11 z12 z13 hb10 HW10
  have b0 := HK10.out
  unfold z3 at b0
  have y0 := b0.cell 0
  have y1 := b0.cell 1
  have y2 := b0.cell 2
  have yf := b0.frozen
  refine wpAnyH_ready (rs := [4]) (by kernel_rfl) (by simp) ?_
  refine AllReadyH.cons rfl (fun K hK => ?_) AllReadyH.nil
  go_simp
  rw [set3_eq]
  obtain ⟨W11, HW11⟩ := nm (set3 W10 (w.heap.size + 1) (.string (kstr ts)) (.int .i64 (tp : Nat)) (.bool false))
  rw [HW11.out]
  have u11 : Upd (· = w.heap.size + 1) W10 W11 := by rw [← HW11.out]; exact set3_upd _ _ _ _ _
  have hb11 : Blk W11 (w.heap.size + 1) 60 #[.string (kstr ts), .int .i64 tp, .bool false] := by rw [← HW11.out]; exact set3_blk b0 _ _ _
  have HS11 := Lib.hid (HS10.out.turn (P' := P2 w.heap.size) u11 (fun _ _ e => .inr e) (fun _ q => .inl q))
  have HB11 := Lib.hid (HB10.out.upd u11 (by omega))
  have HT11 := Lib.hid (HT10.out.upd u11 (by omega))
  have HR11 := Lib.hid (HR10.out.upd u11 (by omega))
  have HRK11 := Lib.hid (HRK10.out.upd u11 (fun k _ q e => by omega))
  have HK11 := Lib.hid hb11
  refine hK.out _ _ ?_ (fun hHeld => ?_)
  ·
   exact rt_cells HR11.out HT11.out
  clear hK K
  try simp only [put_y]
  try simp only [Act.put]
  try simp only [put_z]
  clear b0 yf y0 y1 y2 hb11 HW11
  refine wpAnyH_ready (rs := [5]) (by kernel_rfl) (by simp) ?_
  refine AllReadyH.cons rfl (fun K hK => ?_) AllReadyH.nil
  go_simp
  refine hK.out _ _ ?_ (fun hHeld => ?_)
  ·
   exact rt_cells HR11.out HT11.out
  clear hK K
  try simp only [put_y]
  try simp only [Act.put]
  try simp only [put_z]
  refine wpAnyH_done (by kernel_rfl) ?_ _
  go_wp2_with fail
  refine bodyPost_ret (results_cell_cell_tmp rfl _ _ w.heap.size 33 _ (0, 0) _ (w.heap.size + 1) 60 _ (0, 0) _ rfl HB11.out Try.underlying33 rfl (by kernel_rfl) rfl HK11.out Try.underlying60 rfl (by kernel_rfl)) rfl ?_
  rw [← Hr.out]
  exact ⟨rl, a, ts, tp, b, y.exp L [59], rfl, HRK11.out.mono (fun k _ q => ⟨by omega, fun r => by have := HLT.out k r; omega⟩), HS11.out.rd, exp_good hL HG5.out, HS11.out.own, HS11.out.upd, item_ax hL H0.out HTK.out HR5.out HG5.out HTP.out HAB.out⟩
 | false =>
  have CE := Lib.hid (rExpect_c HS3.out.rd hiL hLl [114, 117, 108, 101])
  go_wp2_with fail
  refine CE.out.mono ?_
  rintro e w4 ⟨rfl, hy4, hu4⟩
  have hg0 : Good T (x.exp L [114, 117, 108, 101]) := exp_good hL HX.out
  have ho0 : ∀ k, (x.exp L [114, 117, 108, 101]).own p k → x.own p k := fun k hk => (exp_own _ _).1 hk
  obtain ⟨y0, Hy0⟩ := nm (x.exp L [114, 117, 108, 101])
  rw [Hy0.out] at hy4 hg0 ho0
  have HS4 : Hid (LocP (P2 w.heap.size) w w4 p A c L x y0) := HS3.out.call hy4 (fun k hk => .inl (ho0 k hk)) (hu4.mono (fun _ _ e => .inl e))
  have HB4 := Lib.hid (HB3.out.upd hu4 (by omega))
  have HK4 := Lib.hid (HK3.out.upd hu4 (by omega))
  have HG0 := Lib.hid hg0
  have hs4 := hu4.size
  obtain ⟨c0, c1, c2, c3, c4, c5, c6⟩ := HS4.out.rd.cells
  have cf := HS4.out.rd.blk.frozen
  have hcl := HS4.out.rd.clear
  obtain ⟨W5, HW5⟩ := nm ((w4.setCell ⟨p, 4, none⟩ (.slice none 0 0)).setCell ⟨p, 5, none⟩ (.slice none 0 0))
  rw [HW5.out] at hcl
  have e5 := HW5.out
  have HS5 : Hid (LocP (P2 w.heap.size) w W5 p A c L x y0.clear) := HS4.out.call hcl.1 (fun k hk => .inl (.inl ((clear_own _ _ _).1 hk))) (hcl.2.mono (fun _ _ e => .inl e))
  have HB5 := Lib.hid (HB4.out.upd hcl.2 (by omega))
  have HK5 := Lib.hid (HK4.out.upd hcl.2 (by omega))
  have hs5 := hcl.2.size
  have HG5 : Hid (Good T y0.clear) := ⟨hg0.1, fun _ => ⟨Nat.zero_le _, Nat.zero_le _⟩⟩
  have CW := Lib.hid (rWordA_c hL HS5.out.rd HG5.out HB5.out hpw)
  clear CE hy4 hu4 hg0 ho0 c0 c1 c2 c3 c6 hcl HS3 HB3 HK3
  go_wp2_with fail
  refine CW.out.mono ?_
  rintro e w6 hw6
  have HW6 := Lib.hid hw6
  clear hw6 CW c4 c5 cf e5 HS4 HB4 HK4
  obtain ⟨_, y1, ts, tp, ev, htt, hb6, hy6, hg6, _, ho6, hu6, hr6⟩ := HW6.out
  subst ev
  have HS6 : Hid (LocP (P2 w.heap.size) w w6 p A c L x y1) := HS5.out.callP hy6 ho6 (hu6.mono (fun _ _ q => q.imp_right .inl))
  have HB6 := Lib.hid hb6
  have HK6 := Lib.hid (HK5.out.upd hu6 (fun q => by
   rcases q with q | q
   ·
    exact (HS5.out.pr _ (.inr rfl)).2.2 q
   ·
    omega))
  have HG1 := Lib.hid hg6
  have hR1 := any_res hr6 (fun q => (htt q).1)
  have HR1 : Hid (ResS y0 y1 (anyF T fin { psOf y0 with vs := [], ms := [] }) (fun v => v = ts)) := hR1
  have HTP : Hid (y1.why = 0 → tp = offF T fin y0.i) := fun q => by rw [(htt q).2]; exact hL.pos HG5.out.1
  have hs6 := hu6.size
  have hyl : y1.i < L.length := by have := hL.lt; have := hg6.1; omega
  obtain ⟨W7, HW7⟩ := nm (w6.alloc (.cells #[.string (kstr ts), .int .i64 tp, .bool false] 60))
  have u7 : Upd Non w6 W7 := by rw [← HW7.out]; exact Upd.refl.alloc _
  have b7 : Blk W7 w6.heap.size 60 #[.string (kstr ts), .int .i64 tp, .bool false] := by rw [← HW7.out]; exact Blk.new _ _ _
  have s7 : W7.heap.size = w6.heap.size + 1 := by rw [← HW7.out]; simp
  have HS7 : Hid (LocP (fun k => P2 w.heap.size k ∨ k = w6.heap.size) w W7 p A c L x y1) := HS6.out.turn u7 (fun _ _ f => f.elim) (fun k q => q.imp_right (fun q => by omega))
  have HB7 := Lib.hid (HB6.out.upd u7 (fun f => f))
  have HK7 := Lib.hid (HK6.out.upd u7 (fun f => f))
  have HT7 := Lib.hid b7
  have CE := Lib.hid (rExpect_c HS7.out.rd hyl hLl [58])
  clear hb6 hy6 hg6 ho6 hu6 hr6 hR1 htt b7 u7 HW6 HB5 HK5 HS5 HS6 HB6 HK6
  unfold tokVal
  go_upto_region 11 with fail
  rw [HW7.out]
  go_wp2_with fail
  refine CE.out.mono ?_
  rintro e w8 ⟨rfl, hy8, hu8⟩
  have HS8 : Hid (LocP (fun k => P2 w.heap.size k ∨ k = w6.heap.size) w w8 p A c L x (y1.exp L [58])) := HS7.out.call hy8 (fun _ hk => .inl ((exp_own _ _).1 hk)) (hu8.mono (fun _ _ e => .inl e))
  have HB8 := Lib.hid (HB7.out.upd hu8 (by omega))
  have HK8 := Lib.hid (HK7.out.upd hu8 (by omega))
  have b8 := HT7.out.upd hu8 (by omega)
  have hs8 := hu8.size
  have v0 := b8.cell 0
  have HT8 := Lib.hid b8
  obtain ⟨W9, HW9⟩ := nm (w8.alloc (.cells #[.string (kstr ts), .int .i64 0, .int .i64 0, .int .i64 0, .int .i64 0, .slice none 0 0, .int .i64 0, .int .i64 0, .int .i64 0, .int .i64 0, .slice none 0 0, .slice none 0 0, .int .i64 0, .int .i64 0] 33))
  have u9 : Upd Non w8 W9 := by rw [← HW9.out]; exact Upd.refl.alloc _
  have b9 : Blk W9 w8.heap.size 33 (rlCells ⟨kstr ts, .mk 0 0 0 0 [], .mk 0 0 0 0 [], [], 0, 0⟩ ⟨none, 0, none, 0, none, 0⟩) := by rw [← HW9.out]; exact Blk.new _ _ _
  have s9 : W9.heap.size = w8.heap.size + 1 := by rw [← HW9.out]; simp
  have HS9 : Hid (ItS w W9 p A c L x (y1.exp L [58]) w6.heap.size w8.heap.size ts tp ⟨kstr ts, .mk 0 0 0 0 [], .mk 0 0 0 0 [], [], 0, 0⟩ ⟨none, 0, none, 0, none, 0⟩) := by
   refine ⟨HS8.out.turn u9 (fun _ _ f => f.elim) (fun k q => ?_), HB8.out.upd u9 (fun f => f), HK8.out.upd u9 (fun f => f), HT8.out.upd u9 (fun f => f), b9, CdO.none_, by omega, by omega, ItS.leaf, ItS.leaf⟩
   rcases q with q | q | q | q | q
   ·
    exact .inl (.inl (.inl q))
   ·
    exact .inl (.inl (.inr q))
   ·
    exact .inl (.inr q)
   ·
    exact .inr (by omega)
   ·
    exact (At.none_ q).elim
  have HG2 : Hid (Good T (y1.exp L [58])) := exp_good hL HG1.out
  clear CE b8 hy8 hu8 b9 u9 HS7 HB7 HK7 HT7 HS8 HB8 HK8 HT8
  go_upto_region 13 with fail
  rw [HW9.out]
  obtain ⟨c0, c1, c2, c3, c4, c5, c6⟩ := HS9.out.loc.rd.cells
  have cf := HS9.out.loc.rd.blk.frozen
  obtain ⟨W10, HW10⟩ := nm (W9.setCell ⟨p, 6, none⟩ (.bool true))
  have e10 := HW10.out
  have HS10 : Hid (ItS w W10 p A c L x { (y1.exp L [58]) with left := true } w6.heap.size w8.heap.size ts tp ⟨kstr ts, .mk 0 0 0 0 [], .mk 0 0 0 0 [], [], 0, 0⟩ ⟨none, 0, none, 0, none, 0⟩) := by rw [← e10]; exact HS9.out.setLeft true
  have HG3 : Hid (Good T { (y1.exp L [58]) with left := true }) := HG2.out
  have CT := Lib.hid (rTerm_any hL true T.length HS10.out.loc.rd HG3.out rfl (fun _ => by omega))
  clear v0 HW9 c0 c1 c2 c3 c4 c5 HS9 HW7
  go_wp2_with fail
  refine CT.out.mono ?_
  rintro e w11 ⟨q1, KA1, kc1, y3, rfl, hq, hy, hg, _, ho, hu, hres⟩
  have HS11 := Lib.hid (HS10.out.call hy ho hu)
  have HQ1 := Lib.hid (HS10.out.new hq)
  have HG4 := Lib.hid hg
  have HR3 : Hid (ResS (y1.exp L [58]) y3 (termF T fin true (T.length + 1) (psOf (y1.exp L [58]))) (fun v => v = q1)) := by
   have h2 : ResS { (y1.exp L [58]) with left := true } y3 (termF T fin true (T.length + 1) (psOf { (y1.exp L [58]) with left := true })) (fun v => v = q1) := ResS.mono hres (fun _ q => q.1)
   exact h2
  have hs11 := hu.size
  have b11 := HS11.out.rl
  unfold rlCells at b11
  have k1 := b11.cell 1
  have k2 := b11.cell 2
  have k3 := b11.cell 3
  have k4 := b11.cell 4
  have k5 := b11.cell 5
  have kf := b11.frozen
  clear c6 cf e10 CT hq hy hg ho hu hres HS10
  unfold pv
  go_upto_region 15 with fail
  rw [setLf_eq]
  obtain ⟨W12, HW12⟩ := nm (setLf w11 w8.heap.size (.int .i64 q1.v) (.int .i64 q1.op) (.int .i64 q1.imm) (.int .i64 q1.iv) (.slice KA1 q1.kids.length kc1))
  rw [HW12.out]
  have u12 : Upd (· = w8.heap.size) w11 W12 := by rw [← HW12.out]; exact setLf_upd _ _ _ _ _ _ _
  have b12 : Blk W12 w8.heap.size 33 (rlCells ⟨kstr ts, q1, .mk 0 0 0 0 [], [], 0, 0⟩ ⟨KA1, kc1, none, 0, none, 0⟩) := by rw [← HW12.out]; exact setLf_blk b11 _ _ _ _ _
  have HS12 := Lib.hid (HS11.out.rule u12 b12 rfl rfl rfl HQ1.out HS11.out.kr)
  clear b11 k1 k2 k3 k4 k5 kf u12 b12 HW12 HS11 HQ1
  obtain ⟨c0, c1, c2, c3, c4, c5, c6⟩ := HS12.out.loc.rd.cells
  have cf := HS12.out.loc.rd.blk.frozen
  obtain ⟨W13, HW13⟩ := nm (W12.setCell ⟨p, 6, none⟩ (.bool false))
  have e13 := HW13.out
  have HS13 : Hid (ItS w W13 p A c L x { y3 with left := false } w6.heap.size w8.heap.size ts tp ⟨kstr ts, q1, .mk 0 0 0 0 [], [], 0, 0⟩ ⟨KA1, kc1, none, 0, none, 0⟩) := by rw [← e13]; exact HS12.out.setLeft false
  have HG5 : Hid (Good T { y3 with left := false }) := HG4.out
  have hyl3 : ({ y3 with left := false } : St).i < L.length := by have := hL.lt; have := HG4.out.1; show y3.i < _; omega
  have CE := Lib.hid (rExpect_c HS13.out.loc.rd hyl3 hLl [61, 62])
  clear c0 c1 c2 c3 c4 c5 HS12 hyl3
  go_wp2_with fail
  refine CE.out.mono ?_
  rintro e w14 ⟨rfl, hy14, hu14⟩
  have HS14 := Lib.hid (HS13.out.exp hy14 hu14)
  have hg14 : Good T (({ y3 with left := false } : St).exp L [61, 62]) := exp_good hL HG5.out
  rw [exp_left_set] at HS14 hg14
  have HG6 := Lib.hid hg14
  have CT := Lib.hid (rTerm_any hL false T.length HS14.out.loc.rd HG6.out rfl (fun _ => by omega))
  clear CE c6 cf e13 hy14 hu14 hg14 HS13
  go_wp2_with fail
  refine CT.out.mono ?_
  rintro e w15 ⟨q2, KA2, kc2, y5, rfl, hq, hy, hg, hl5, ho, hu, hres⟩
  have HS15 := Lib.hid (HS14.out.call hy ho hu)
  have HQ2 := Lib.hid (HS14.out.new hq)
  have HG7 := Lib.hid hg
  have HL7 : Hid (y5.left = false) := hl5
  have HR5 : Hid (ResS (y3.exp L [61, 62]) y5 (termF T fin false (T.length + 1) (psOf (y3.exp L [61, 62]))) (fun v => v = q2)) := by
   have h2 : ResS { (y3.exp L [61, 62]) with left := false } y5 (termF T fin false (T.length + 1) (psOf { (y3.exp L [61, 62]) with left := false })) (fun v => v = q2) := ResS.mono hres (fun _ q => q.1)
   exact h2
  have b15 := HS15.out.rl
  unfold rlCells at b15
  have k6 := b15.cell 6
  have k7 := b15.cell 7
  have k8 := b15.cell 8
  have k9 := b15.cell 9
  have k10 := b15.cell 10
  have kf := b15.frozen
  clear CT hq hy hg ho hu hres hl5 HS14
  unfold pv
  go_upto_region 18 with fail
  rw [setRt_eq]
  obtain ⟨W16, HW16⟩ := nm (setRt w15 w8.heap.size (.int .i64 q2.v) (.int .i64 q2.op) (.int .i64 q2.imm) (.int .i64 q2.iv) (.slice KA2 q2.kids.length kc2))
  rw [HW16.out]
  have u16 : Upd (· = w8.heap.size) w15 W16 := by rw [← HW16.out]; exact setRt_upd _ _ _ _ _ _ _
  have b16 : Blk W16 w8.heap.size 33 (rlCells ⟨kstr ts, q1, q2, [], 0, 0⟩ ⟨KA1, kc1, KA2, kc2, none, 0⟩) := by rw [← HW16.out]; exact setRt_blk b15 _ _ _ _ _
  have HS16 := Lib.hid (HS15.out.rule u16 b16 rfl rfl rfl HS15.out.kl HQ2.out)
  have hy5l : y5.i < L.length := by have := hL.lt; have := HG7.out.1; omega
  have CI := Lib.hid (rIs_c HS16.out.loc.rd hy5l [105, 102])
  rw [hL.tk HG7.out.1] at CI
  obtain ⟨z, Hz2⟩ := nm (y5.why == 0 && decide (tkF T y5.i = some [105, 102]))
  rw [Hz2.out] at CI
  clear b15 k6 k7 k8 k9 k10 kf u16 b16 HW16 HS15 HQ2
  go_upto_if 65 with fail
  refine CI.out.mono ?_
  rintro e w17 ⟨rfl, hu17⟩
  have HS17 := Lib.hid (HS16.out.non hu17)
  clear CI hu17 HS16
  go_upto_if 65 with fail
  have hTl : T.length ≤ 100000 := by have := hL.lt; omega
  go_cut [] (fun wx => ∃ (CA : Option Addr) (cc : Nat) (cs : List Cd) (y6 : St), Hid (ItS w wx p A c L x y6 w6.heap.size w8.heap.size ts tp ⟨kstr ts, q1, q2, cs, 0, 0⟩ ⟨KA1, kc1, KA2, kc2, CA, cc⟩) ∧ Hid (Good T y6) ∧ Hid (ResS y5 y6 (ifF T fin (T.length + 1) (psOf y5)) (fun v => v = cs)))
  case first =>
   cases z with
   | false =>
    go_wp2_with fail
    go_meet
    case rel => exact ⟨none, 0, [], y5, HS17, HG7, ifF_none Hz2.out⟩
   | true =>
    have hz2 := Hz2.out
    simp only [Bool.and_eq_true, beq_iff_eq, decide_eq_true_eq] at hz2
    have H05 : Hid (y5.why = 0) := hz2.1
    have HTK : Hid (tkF T y5.i = some [105, 102]) := hz2.2
    have hiT := tkF_lt hz2.2
    obtain ⟨c0, c1, c2, c3, c4, c5, c6⟩ := HS17.out.loc.rd.cells
    have cf := HS17.out.loc.rd.blk.frozen
    have hs18 := HS17.out.setI (y5.i + 1)
    have hg18 : Good T { y5 with i := y5.i + 1 } := ⟨hiT, fun _ => by have := HG7.out.2 hz2.1; exact ⟨Nat.le_succ_of_le this.1, Nat.le_succ_of_le this.2⟩⟩
    obtain ⟨i, Hi⟩ := nm y5.i
    rw [Hi.out] at c1 hiT hs18
    rw [show (.int .i64 ((i + 1 : Nat) : Int) : Value) = .int .i64 ((i : Int) + 1) from rfl] at hs18
    obtain ⟨W18, HW18⟩ := nm (w17.setCell ⟨p, 1, none⟩ (.int .i64 ((i : Int) + 1)))
    have e18 := HW18.out
    rw [e18, ← Hi.out] at hs18
    have HS18 := Lib.hid hs18
    have HG := Lib.hid hg18
    have HL : Hid (({ y5 with i := y5.i + 1 } : St).left = false) := HL7.out
    clear hz2 c0 c2 c3 c4 c5 c6 hs18 hg18
    go_upto_region 20 with fail
    clear c1 cf e18 HW18
    obtain ⟨yy, CA, cc, cs, Hyy, Hcs, HS, HG, HL⟩ : ∃ (yy : St) (CA : Option Addr) (cc : Nat) (cs : List Cd), Hid (yy = { y5 with i := y5.i + 1 }) ∧ Hid (cs = []) ∧ Hid (ItS w W18 p A c L x yy w6.heap.size w8.heap.size ts tp ⟨kstr ts, q1, q2, cs, 0, 0⟩ ⟨KA1, kc1, KA2, kc2, CA, cc⟩) ∧ Hid (Good T yy) ∧ Hid (yy.left = false) := ⟨_, none, 0, [], rfl, rfl, HS18, HG, HL⟩
    have hcl : cs.length ≤ 100000 := by rw [Hcs.out]; exact Nat.zero_le _
    clear HS18 HS17
    go_cut [] (fun wx => ∃ (A8 : Option Addr) (c8 : Nat) (cd : Cd) (y' : St), Hid (ItS w wx p A c L x y' w6.heap.size w8.heap.size ts tp ⟨kstr ts, q1, q2, cs ++ [cd], 0, 0⟩ ⟨KA1, kc1, KA2, kc2, A8, c8⟩) ∧ Hid (Good T y') ∧ Hid (y'.left = false) ∧ Hid (ResS yy y' (pcondF T fin (psOf yy)) (fun v => v = cd ∧ yy.i + 1 ≤ y'.i)))
    case first =>
     obtain ⟨wD, HwD⟩ := nm W18.drew
     have uD : Upd Non W18 wD := by rw [← HwD.out]; exact Upd.refl.drew
     have HS := Lib.hid (HS.out.non uD)
     refine wp_region_held_drew (S := fun _ => True) (by kernel_rfl) trivial (fun hHeld => ?_)
     rw [HwD.out]
     clear uD
     refine wpT 0 ?_
     try simp only [put_y]
     try simp only [Act.put]
     try simp only [put_z]
     refine wpT 2 ?_
     try simp only [put_y]
     try simp only [Act.put]
     try simp only [put_z]
     refine wpAnyH_ready (rs := [1, 3]) (by kernel_rfl) (by simp) ?_
     refine AllReadyH.cons rfl (fun K hK => ?_) (AllReadyH.cons rfl (fun K hK => ?_) AllReadyH.nil)
     ·
      skip
      have hbk := HS.out.rl
      unfold rlCells at hbk
      have k11 := hbk.cell 11
      go_simp
      refine hK.out _ _ ?_ (fun hHeld => ?_)
      ·
       exact trivial
      clear hK K
      try simp only [put_y]
      try simp only [Act.put]
      try simp only [put_z]
      clear hbk k11
      refine wpAnyH_ready (rs := [3]) (by kernel_rfl) (by simp) ?_
      refine AllReadyH.cons rfl (fun K hK => ?_) AllReadyH.nil
      go_simp
      refine (rCond_c hL HS.out.loc.rd HG.out HL.out).mono ?_
      rintro e wc6 ⟨cd, y', rfl, hy', hg', hl', ho', hu', hres⟩
      have HS := Lib.hid (HS.out.call hy' ho' hu')
      have HG2 := Lib.hid hg'
      have HL2 : Hid (y'.left = false) := hl'.trans HL.out
      have HRS := Lib.hid hres
      clear hy' hg' ho' hu' hres hl'
      go_wp2_with fail
      refine hK.out _ _ ?_ (fun hHeld => ?_)
      ·
       exact trivial
      clear hK K
      try simp only [put_y]
      try simp only [Act.put]
      try simp only [put_z]
      refine wpAnyH_ready (rs := [4]) (by kernel_rfl) (by simp) ?_
      refine AllReadyH.cons rfl (fun K hK => ?_) AllReadyH.nil
      go_simp
      have HS := Lib.hid (HS.out.non (Upd.refl.alloc (.cells #[.int .i64 cd.kind, .int .i64 cd.a, .int .i64 cd.b, .int .i64 cd.n] 66) (S := Non)))
      refine hK.out _ _ ?_ (fun hHeld => ?_)
      ·
       exact trivial
      clear hK K
      try simp only [put_y]
      try simp only [Act.put]
      try simp only [put_z]
      refine wpAnyH_ready (rs := [5]) (by kernel_rfl) (by simp) ?_
      refine AllReadyH.cons rfl (fun K hK => ?_) AllReadyH.nil
      have hko := HS.out.cds
      unfold CdO at hko
      refine step_app rfl rfl T_conds rfl hko rfl (Sl.new _ _ _) rfl (by simp [Value.oneCell']) (by simp only [maxLen]; omega) (by omega) ?_
      intro A8 c8 w8' ho8 hu8 hat8
      have hcd := CdO.of rfl ho8
      have hbk := HS.out.rl.upd hu8 HS.out.ncd.2.2.2
      unfold rlCells at hbk
      have k11 := hbk.cell 11
      have kf := hbk.frozen
      clear hko ho8
      refine hK.out _ _ ?_ (fun hHeld => ?_)
      ·
       exact trivial
      clear hK K
      try simp only [put_y]
      try simp only [Act.put]
      try simp only [put_z]
      refine wpT 6 ?_
      try simp only [put_y]
      try simp only [Act.put]
      try simp only [put_z]
      refine wpAnyH_ready (rs := [7]) (by kernel_rfl) (by simp) ?_
      refine AllReadyH.cons rfl (fun K hK => ?_) AllReadyH.nil
      go_simp
      have hb9 := hbk.set_ 11 (.slice A8 (cs ++ [cd]).length c8)
      obtain ⟨w9, Hw9⟩ := nm (w8'.setCell ⟨w8.heap.size, 11, none⟩ (.slice A8 (cs ++ [cd]).length c8))
      have e9 := Hw9.out
      rw [e9] at hb9
      rw [List.length_append, List.length_singleton] at e9
      rw [e9]
      have u9 : Upd (· = w8.heap.size) w8' w9 := by rw [← Hw9.out]; exact updCell _ _ _ _
      have HS := Lib.hid (HS.out.app hu8 hcd hat8 u9 (by simpa [rlCells] using hb9))
      clear hbk k11 kf hcd hu8 hat8 hb9 u9 Hw9 e9
      refine hK.out _ _ ?_ (fun hHeld => ?_)
      ·
       exact trivial
      clear hK K
      try simp only [put_y]
      try simp only [Act.put]
      try simp only [put_z]
      refine wpAnyH_done (by kernel_rfl) ?_ _
      go_wp2_with fail
      go_meet
      case rel => exact ⟨A8, c8, cd, y', HS, HG2, HL2, HRS⟩
     ·
      skip
      go_simp
      refine (rCond_c hL HS.out.loc.rd HG.out HL.out).mono ?_
      rintro e wc6 ⟨cd, y', rfl, hy', hg', hl', ho', hu', hres⟩
      have HS := Lib.hid (HS.out.call hy' ho' hu')
      have HG2 := Lib.hid hg'
      have HL2 : Hid (y'.left = false) := hl'.trans HL.out
      have HRS := Lib.hid hres
      clear hy' hg' ho' hu' hres hl'
      go_wp2_with fail
      refine hK.out _ _ ?_ (fun hHeld => ?_)
      ·
       exact trivial
      clear hK K
      try simp only [put_y]
      try simp only [Act.put]
      try simp only [put_z]
      have hbk := HS.out.rl
      unfold rlCells at hbk
      have k11 := hbk.cell 11
      refine wpAnyH_takeM (fun w' => w'.cell? ⟨w8.heap.size, 11, none⟩ = some (.slice CA cs.length cc)) (calm_cell _ _) [5, 6, 7] (i := 1) (v := ?_) rfl (by kernel_rfl) (by kernel_rfl) (by kernel_rfl) (by kernel_rfl) (fun _ _ _ h => h) (Or.inl ⟨by rfl, ?_⟩) (k11) (by assumption) ?_
      rotate_left
      ·
       intro w hSw; (try dsimp only at hSw); go_simp; try with_reducible rfl
      try simp only [put_y]
      try simp only [Act.put]
      try simp only [put_z]
      clear hbk k11
      refine wpAnyH_ready (rs := [4]) (by kernel_rfl) (by simp) ?_
      refine AllReadyH.cons rfl (fun K hK => ?_) AllReadyH.nil
      go_simp
      have HS := Lib.hid (HS.out.non (Upd.refl.alloc (.cells #[.int .i64 cd.kind, .int .i64 cd.a, .int .i64 cd.b, .int .i64 cd.n] 66) (S := Non)))
      refine hK.out _ _ ?_ (fun hHeld => ?_)
      ·
       exact trivial
      clear hK K
      try simp only [put_y]
      try simp only [Act.put]
      try simp only [put_z]
      refine wpAnyH_ready (rs := [5]) (by kernel_rfl) (by simp) ?_
      refine AllReadyH.cons rfl (fun K hK => ?_) AllReadyH.nil
      have hko := HS.out.cds
      unfold CdO at hko
      refine step_app rfl rfl T_conds rfl hko rfl (Sl.new _ _ _) rfl (by simp [Value.oneCell']) (by simp only [maxLen]; omega) (by omega) ?_
      intro A8 c8 w8' ho8 hu8 hat8
      have hcd := CdO.of rfl ho8
      have hbk := HS.out.rl.upd hu8 HS.out.ncd.2.2.2
      unfold rlCells at hbk
      have k11 := hbk.cell 11
      have kf := hbk.frozen
      clear hko ho8
      refine hK.out _ _ ?_ (fun hHeld => ?_)
      ·
       exact trivial
      clear hK K
      try simp only [put_y]
      try simp only [Act.put]
      try simp only [put_z]
      refine wpT 6 ?_
      try simp only [put_y]
      try simp only [Act.put]
      try simp only [put_z]
      refine wpAnyH_ready (rs := [7]) (by kernel_rfl) (by simp) ?_
      refine AllReadyH.cons rfl (fun K hK => ?_) AllReadyH.nil
      go_simp
      have hb9 := hbk.set_ 11 (.slice A8 (cs ++ [cd]).length c8)
      obtain ⟨w9, Hw9⟩ := nm (w8'.setCell ⟨w8.heap.size, 11, none⟩ (.slice A8 (cs ++ [cd]).length c8))
      have e9 := Hw9.out
      rw [e9] at hb9
      rw [List.length_append, List.length_singleton] at e9
      rw [e9]
      have u9 : Upd (· = w8.heap.size) w8' w9 := by rw [← Hw9.out]; exact updCell _ _ _ _
      have HS := Lib.hid (HS.out.app hu8 hcd hat8 u9 (by simpa [rlCells] using hb9))
      clear hbk k11 kf hcd hu8 hat8 hb9 u9 Hw9 e9
      refine hK.out _ _ ?_ (fun hHeld => ?_)
      ·
       exact trivial
      clear hK K
      try simp only [put_y]
      try simp only [Act.put]
      try simp only [put_z]
      refine wpAnyH_done (by kernel_rfl) ?_ _
      go_wp2_with fail
      go_meet
      case rel => exact ⟨A8, c8, cd, y', HS, HG2, HL2, HRS⟩
    case rest =>
     obtain ⟨CB, cb, cd, y6, HS, HG, HL, HRS⟩ := hcut
     have HC : Hid (CdL T fin y5 y6 (cs ++ [cd]) (T.length + 1)) := by
      show CdL T fin y5 y6 (cs ++ [cd]) (T.length + 1)
      rw [Hcs.out]
      have h2 := HRS.out
      rw [Hyy.out] at h2
      exact CdL.first HTK.out H05.out h2
     have hcb : (cs ++ [cd]).length + (T.length + 1) ≤ T.length + 2 := by rw [Hcs.out]; simp; omega
     clear Hyy Hcs HRS hcl HTK H05
     go_wp2_with fail
     go_loopg [] (T.length + 1) (fun g wr => ∃ (fu : Nat) (CB : Option Addr) (cb : Nat) (cs : List Cd) (y : St), Hid (g = fu) ∧ Hid (ItS w wr p A c L x y w6.heap.size w8.heap.size ts tp ⟨kstr ts, q1, q2, cs, 0, 0⟩ ⟨KA1, kc1, KA2, kc2, CB, cb⟩) ∧ Hid (Good T y) ∧ Hid (y.left = false) ∧ Hid (CdL T fin y5 y cs fu) ∧ cs.length + fu ≤ T.length + 2)
     case atStart => exact ⟨_, CB, cb, cs ++ [cd], y6, rfl, HS, HG, HL, HC, hcb⟩
     case round =>
      clear HS HG HL HC hcb
      obtain ⟨fu, CA, cc, cs, y, Hfu, HS, HG, HL, HC, hcb⟩ := hrel
      have hyl : y.i < L.length := by have := hL.lt; have := HG.out.1; omega
      have CI := Lib.hid (rIs_c HS.out.loc.rd hyl [44])
      rw [hL.tk HG.out.1] at CI
      obtain ⟨z, Hz3⟩ := nm (y.why == 0 && decide (tkF T y.i = some [44]))
      rw [Hz3.out] at CI
      go_wp2_with fail
      refine CI.out.mono ?_
      rintro e wi ⟨rfl, hui⟩
      have HSi := Lib.hid (HS.out.non hui)
      clear HS CI hui
      cases z with
      | false =>
       go_wp2_with fail
       go_meet
       case rel => exact ⟨CA, cc, cs, y, HSi, HG, CdL.done HC.out Hz3.out⟩
      | true =>
       have hz2 := Hz3.out
       simp only [Bool.and_eq_true, beq_iff_eq, decide_eq_true_eq] at hz2
       have H05 : Hid (y.why = 0) := hz2.1
       have HTK : Hid (tkF T y.i = some [44]) := hz2.2
       have hiT := tkF_lt hz2.2
       obtain ⟨c0, c1, c2, c3, c4, c5, c6⟩ := HSi.out.loc.rd.cells
       have cf := HSi.out.loc.rd.blk.frozen
       have hs18 := HSi.out.setI (y.i + 1)
       have hg18 : Good T { y with i := y.i + 1 } := ⟨hiT, fun _ => by have := HG.out.2 hz2.1; exact ⟨Nat.le_succ_of_le this.1, Nat.le_succ_of_le this.2⟩⟩
       have HIT := Lib.hid hiT
       obtain ⟨i, Hi⟩ := nm y.i
       rw [Hi.out] at c1 hiT hs18
       rw [show (.int .i64 ((i + 1 : Nat) : Int) : Value) = .int .i64 ((i : Int) + 1) from rfl] at hs18
       obtain ⟨W18, HW18⟩ := nm (wi.setCell ⟨p, 1, none⟩ (.int .i64 ((i : Int) + 1)))
       have e18 := HW18.out
       rw [e18, ← Hi.out] at hs18
       obtain ⟨yy, Hyy, HS, HG, HL⟩ : ∃ (yy : St), Hid (yy = { y with i := y.i + 1 }) ∧ Hid (ItS w W18 p A c L x yy w6.heap.size w8.heap.size ts tp ⟨kstr ts, q1, q2, cs, 0, 0⟩ ⟨KA1, kc1, KA2, kc2, CA, cc⟩) ∧ Hid (Good T yy) ∧ Hid (yy.left = false) := ⟨_, rfl, hs18, hg18, HL.out⟩
       have hcl : cs.length ≤ 100002 := by omega
       clear hz2 c0 c2 c3 c4 c5 c6 hs18 hg18 HSi
       go_upto_region 23 with fail
       clear c1 cf e18 HW18
       obtain ⟨wD, HwD⟩ := nm W18.drew
       have uD : Upd Non W18 wD := by rw [← HwD.out]; exact Upd.refl.drew
       have HS := Lib.hid (HS.out.non uD)
       refine wp_region_held_drew (S := fun _ => True) (by kernel_rfl) trivial (fun hHeld => ?_)
       rw [HwD.out]
       clear uD
       refine wpT 0 ?_
       try simp only [put_y]
       try simp only [Act.put]
       try simp only [put_z]
       refine wpT 2 ?_
       try simp only [put_y]
       try simp only [Act.put]
       try simp only [put_z]
       refine wpAnyH_ready (rs := [1, 3]) (by kernel_rfl) (by simp) ?_
       refine AllReadyH.cons rfl (fun K hK => ?_) (AllReadyH.cons rfl (fun K hK => ?_) AllReadyH.nil)
       ·
        skip
        have hbk := HS.out.rl
        unfold rlCells at hbk
        have k11 := hbk.cell 11
        go_simp
        refine hK.out _ _ ?_ (fun hHeld => ?_)
        ·
         exact trivial
        clear hK K
        try simp only [put_y]
        try simp only [Act.put]
        try simp only [put_z]
        clear hbk k11
        refine wpAnyH_ready (rs := [3]) (by kernel_rfl) (by simp) ?_
        refine AllReadyH.cons rfl (fun K hK => ?_) AllReadyH.nil
        go_simp
        refine (rCond_c hL HS.out.loc.rd HG.out HL.out).mono ?_
        rintro e wc6 ⟨cd, y', rfl, hy', hg', hl', ho', hu', hres⟩
        have HS := Lib.hid (HS.out.call hy' ho' hu')
        have HG2 := Lib.hid hg'
        have HL2 : Hid (y'.left = false) := hl'.trans HL.out
        have HRS := Lib.hid hres
        clear hy' hg' ho' hu' hres hl'
        go_wp2_with fail
        refine hK.out _ _ ?_ (fun hHeld => ?_)
        ·
         exact trivial
        clear hK K
        try simp only [put_y]
        try simp only [Act.put]
        try simp only [put_z]
        refine wpAnyH_ready (rs := [4]) (by kernel_rfl) (by simp) ?_
        refine AllReadyH.cons rfl (fun K hK => ?_) AllReadyH.nil
        go_simp
        have HS := Lib.hid (HS.out.non (Upd.refl.alloc (.cells #[.int .i64 cd.kind, .int .i64 cd.a, .int .i64 cd.b, .int .i64 cd.n] 66) (S := Non)))
        refine hK.out _ _ ?_ (fun hHeld => ?_)
        ·
         exact trivial
        clear hK K
        try simp only [put_y]
        try simp only [Act.put]
        try simp only [put_z]
        refine wpAnyH_ready (rs := [5]) (by kernel_rfl) (by simp) ?_
        refine AllReadyH.cons rfl (fun K hK => ?_) AllReadyH.nil
        have hko := HS.out.cds
        unfold CdO at hko
        refine step_app rfl rfl T_conds rfl hko rfl (Sl.new _ _ _) rfl (by simp [Value.oneCell']) (by simp only [maxLen]; omega) (by omega) ?_
        intro A8 c8 w8' ho8 hu8 hat8
        have hcd := CdO.of rfl ho8
        have hbk := HS.out.rl.upd hu8 HS.out.ncd.2.2.2
        unfold rlCells at hbk
        have k11 := hbk.cell 11
        have kf := hbk.frozen
        clear hko ho8
        refine hK.out _ _ ?_ (fun hHeld => ?_)
        ·
         exact trivial
        clear hK K
        try simp only [put_y]
        try simp only [Act.put]
        try simp only [put_z]
        refine wpT 6 ?_
        try simp only [put_y]
        try simp only [Act.put]
        try simp only [put_z]
        refine wpAnyH_ready (rs := [7]) (by kernel_rfl) (by simp) ?_
        refine AllReadyH.cons rfl (fun K hK => ?_) AllReadyH.nil
        go_simp
        have hb9 := hbk.set_ 11 (.slice A8 (cs ++ [cd]).length c8)
        obtain ⟨w9, Hw9⟩ := nm (w8'.setCell ⟨w8.heap.size, 11, none⟩ (.slice A8 (cs ++ [cd]).length c8))
        have e9 := Hw9.out
        rw [e9] at hb9
        rw [List.length_append, List.length_singleton] at e9
        rw [e9]
        have u9 : Upd (· = w8.heap.size) w8' w9 := by rw [← Hw9.out]; exact updCell _ _ _ _
        have HS := Lib.hid (HS.out.app hu8 hcd hat8 u9 (by simpa [rlCells] using hb9))
        clear hbk k11 kf hcd hu8 hat8 hb9 u9 Hw9 e9
        refine hK.out _ _ ?_ (fun hHeld => ?_)
        ·
         exact trivial
        clear hK K
        try simp only [put_y]
        try simp only [Act.put]
        try simp only [put_z]
        refine wpAnyH_done (by kernel_rfl) ?_ _
        have HM : Hid (0 < fu ∧ CdL T fin y5 y' (cs ++ [cd]) (fu - 1)) := by
         have h2 := HRS.out
         rw [Hyy.out] at h2
         exact CdL.more HC.out HTK.out H05.out HIT.out h2
        have hg0 := HM.out.1
        have HC2 : Hid (CdL T fin y5 y' (cs ++ [cd]) (fu - 1)) := HM.out.2
        clear HM HRS Hyy HC HTK H05
        go_wp2_with fail
        go_roundg (fu - 1)
        case measure => rw [Hfu.out]; omega
        case rel => exact ⟨fu - 1, A8, c8, cs ++ [cd], y', rfl, HS, HG2, HL2, HC2, by rw [List.length_append, List.length_singleton]; omega⟩
       ·
        skip
        go_simp
        refine (rCond_c hL HS.out.loc.rd HG.out HL.out).mono ?_
        rintro e wc6 ⟨cd, y', rfl, hy', hg', hl', ho', hu', hres⟩
        have HS := Lib.hid (HS.out.call hy' ho' hu')
        have HG2 := Lib.hid hg'
        have HL2 : Hid (y'.left = false) := hl'.trans HL.out
        have HRS := Lib.hid hres
        clear hy' hg' ho' hu' hres hl'
        go_wp2_with fail
        refine hK.out _ _ ?_ (fun hHeld => ?_)
        ·
         exact trivial
        clear hK K
        try simp only [put_y]
        try simp only [Act.put]
        try simp only [put_z]
        have hbk := HS.out.rl
        unfold rlCells at hbk
        have k11 := hbk.cell 11
        refine wpAnyH_takeM (fun w' => w'.cell? ⟨w8.heap.size, 11, none⟩ = some (.slice CA cs.length cc)) (calm_cell _ _) [5, 6, 7] (i := 1) (v := ?_) rfl (by kernel_rfl) (by kernel_rfl) (by kernel_rfl) (by kernel_rfl) (fun _ _ _ h => h) (Or.inl ⟨by rfl, ?_⟩) (k11) (by assumption) ?_
        rotate_left
        ·
         intro w hSw; (try dsimp only at hSw); go_simp; try with_reducible rfl
        try simp only [put_y]
        try simp only [Act.put]
        try simp only [put_z]
        clear hbk k11
        refine wpAnyH_ready (rs := [4]) (by kernel_rfl) (by simp) ?_
        refine AllReadyH.cons rfl (fun K hK => ?_) AllReadyH.nil
        go_simp
        have HS := Lib.hid (HS.out.non (Upd.refl.alloc (.cells #[.int .i64 cd.kind, .int .i64 cd.a, .int .i64 cd.b, .int .i64 cd.n] 66) (S := Non)))
        refine hK.out _ _ ?_ (fun hHeld => ?_)
        ·
         exact trivial
        clear hK K
        try simp only [put_y]
        try simp only [Act.put]
        try simp only [put_z]
        refine wpAnyH_ready (rs := [5]) (by kernel_rfl) (by simp) ?_
        refine AllReadyH.cons rfl (fun K hK => ?_) AllReadyH.nil
        have hko := HS.out.cds
        unfold CdO at hko
        refine step_app rfl rfl T_conds rfl hko rfl (Sl.new _ _ _) rfl (by simp [Value.oneCell']) (by simp only [maxLen]; omega) (by omega) ?_
        intro A8 c8 w8' ho8 hu8 hat8
        have hcd := CdO.of rfl ho8
        have hbk := HS.out.rl.upd hu8 HS.out.ncd.2.2.2
        unfold rlCells at hbk
        have k11 := hbk.cell 11
        have kf := hbk.frozen
        clear hko ho8
        refine hK.out _ _ ?_ (fun hHeld => ?_)
        ·
         exact trivial
        clear hK K
        try simp only [put_y]
        try simp only [Act.put]
        try simp only [put_z]
        refine wpT 6 ?_
        try simp only [put_y]
        try simp only [Act.put]
        try simp only [put_z]
        refine wpAnyH_ready (rs := [7]) (by kernel_rfl) (by simp) ?_
        refine AllReadyH.cons rfl (fun K hK => ?_) AllReadyH.nil
        go_simp
        have hb9 := hbk.set_ 11 (.slice A8 (cs ++ [cd]).length c8)
        obtain ⟨w9, Hw9⟩ := nm (w8'.setCell ⟨w8.heap.size, 11, none⟩ (.slice A8 (cs ++ [cd]).length c8))
        have e9 := Hw9.out
        rw [e9] at hb9
        rw [List.length_append, List.length_singleton] at e9
        rw [e9]
        have u9 : Upd (· = w8.heap.size) w8' w9 := by rw [← Hw9.out]; exact updCell _ _ _ _
        have HS := Lib.hid (HS.out.app hu8 hcd hat8 u9 (by simpa [rlCells] using hb9))
        clear hbk k11 kf hcd hu8 hat8 hb9 u9 Hw9 e9
        refine hK.out _ _ ?_ (fun hHeld => ?_)
        ·
         exact trivial
        clear hK K
        try simp only [put_y]
        try simp only [Act.put]
        try simp only [put_z]
        refine wpAnyH_done (by kernel_rfl) ?_ _
        have HM : Hid (0 < fu ∧ CdL T fin y5 y' (cs ++ [cd]) (fu - 1)) := by
         have h2 := HRS.out
         rw [Hyy.out] at h2
         exact CdL.more HC.out HTK.out H05.out HIT.out h2
        have hg0 := HM.out.1
        have HC2 : Hid (CdL T fin y5 y' (cs ++ [cd]) (fu - 1)) := HM.out.2
        clear HM HRS Hyy HC HTK H05
        go_wp2_with fail
        go_roundg (fu - 1)
        case measure => rw [Hfu.out]; omega
        case rel => exact ⟨fu - 1, A8, c8, cs ++ [cd], y', rfl, HS, HG2, HL2, HC2, by rw [List.length_append, List.length_singleton]; omega⟩
  case rest =>
   clear HG7 HL7 HS17
   obtain ⟨CA, cc, cs, y6, HS, HG, HR6⟩ := hcut
   have hyl : y6.i < L.length := by have := hL.lt; have := HG.out.1; omega
   have CE := Lib.hid (rExpect_c HS.out.loc.rd hyl hLl [59])
   go_wp2_with fail
   refine CE.out.mono ?_
   rintro e w19 ⟨rfl, hy19, hu19⟩
   have HS19 := Lib.hid (HS.out.exp hy19 hu19)
   have hg19 : Good T (y6.exp L [59]) := exp_good hL HG.out
   have HGE := Lib.hid hg19
   clear CE hy19 hu19 hg19 HS
   go_upto_region 25 with fail
   obtain ⟨wD, HwD⟩ := nm w19.drew
   have uD : Upd Non w19 wD := by rw [← HwD.out]; exact Upd.refl.drew
   have HS := Lib.hid (HS19.out.non uD)
   clear HS19 uD
   obtain ⟨vn, Hvn⟩ := nm (y6.exp L [59]).vs.length
   obtain ⟨mn, Hmn⟩ := nm (y6.exp L [59]).ms.length
   have hcs := HS.out.loc.rd.cells
   rw [Hvn.out, Hmn.out] at hcs
   refine wp_region_held_drew (S := fun w' => w'.cell? ⟨p, 4, none⟩ = some (.slice (y6.exp L [59]).va vn (y6.exp L [59]).vc) ∧ w'.cell? ⟨p, 5, none⟩ = some (.slice (y6.exp L [59]).ma mn (y6.exp L [59]).mc)) (by kernel_rfl) (by rw [HwD.out]; exact ⟨hcs.2.2.2.2.1, hcs.2.2.2.2.2.1⟩) (fun hHeld => ?_)
   rw [HwD.out] at hHeld ⊢
   clear hcs
   refine wpT 0 ?_
   try simp only [put_y]
   try simp only [Act.put]
   try simp only [put_z]
   refine wpT 1 ?_
   try simp only [put_y]
   try simp only [Act.put]
   try simp only [put_z]
   refine wpT 2 ?_
   try simp only [put_y]
   try simp only [Act.put]
   try simp only [put_z]
   refine wpT 3 ?_
   try simp only [put_y]
   try simp only [Act.put]
   try simp only [put_z]
   refine wpT 4 ?_
   try simp only [put_y]
   try simp only [Act.put]
   try simp only [put_z]
   refine wpT 5 ?_
   try simp only [put_y]
   try simp only [Act.put]
   try simp only [put_z]
   refine wpT 6 ?_
   try simp only [put_y]
   try simp only [Act.put]
   try simp only [put_z]
   refine wpT 7 ?_
   try simp only [put_y]
   try simp only [Act.put]
   try simp only [put_z]
   refine wpT 8 ?_
   try simp only [put_y]
   try simp only [Act.put]
   try simp only [put_z]
   refine wpT 9 ?_
   try simp only [put_y]
   try simp only [Act.put]
   try simp only [put_z]
   refine wpT 10 ?_
   try simp only [put_y]
   try simp only [Act.put]
   try simp only [put_z]
   have hbk := HS.out.rl
   unfold rlCells at hbk
   have k12 := hbk.cell 12
   have kf := hbk.frozen
   refine wpAnyH_ready (rs := [11]) (by kernel_rfl) (by simp) ?_
   refine AllReadyH.cons rfl (fun K hK => ?_) AllReadyH.nil
   go_simp
   obtain ⟨W20, HW20⟩ := nm (wD.setCell ⟨w8.heap.size, 12, none⟩ (.int .i64 (vn : Nat)))
   rw [HW20.out]
   have u20 : Upd (· = w8.heap.size) wD W20 := by rw [← HW20.out]; exact updCell _ _ _ _
   have b20 : Blk W20 w8.heap.size 33 (rlCells ⟨kstr ts, q1, q2, cs, vn, 0⟩ ⟨KA1, kc1, KA2, kc2, CA, cc⟩) := by
    have := hbk.set_ 12 (.int .i64 (vn : Nat))
    rw [HW20.out] at this
    simpa [rlCells] using this
   have HS20 := Lib.hid (HS.out.rule u20 b20 rfl rfl rfl HS.out.kl HS.out.kr)
   have hcs := HS20.out.loc.rd.cells
   rw [Hvn.out, Hmn.out] at hcs
   refine hK.out _ _ ?_ (fun hHeld => ?_)
   ·
    exact ⟨hcs.2.2.2.2.1, hcs.2.2.2.2.2.1⟩
   clear hK K
   try simp only [put_y]
   try simp only [Act.put]
   try simp only [put_z]
   clear hcs hbk k12 kf u20 b20 HS HW20
   refine wpT 12 ?_
   try simp only [put_y]
   try simp only [Act.put]
   try simp only [put_z]
   have hbk := HS20.out.rl
   unfold rlCells at hbk
   have k13 := hbk.cell 13
   have kf := hbk.frozen
   refine wpAnyH_ready (rs := [13]) (by kernel_rfl) (by simp) ?_
   refine AllReadyH.cons rfl (fun K hK => ?_) AllReadyH.nil
   go_simp
   obtain ⟨W21, HW21⟩ := nm (W20.setCell ⟨w8.heap.size, 13, none⟩ (.int .i64 (mn : Nat)))
   rw [HW21.out]
   have u21 : Upd (· = w8.heap.size) W20 W21 := by rw [← HW21.out]; exact updCell _ _ _ _
   have b21 : Blk W21 w8.heap.size 33 (rlCells ⟨kstr ts, q1, q2, cs, vn, mn⟩ ⟨KA1, kc1, KA2, kc2, CA, cc⟩) := by
    have := hbk.set_ 13 (.int .i64 (mn : Nat))
    rw [HW21.out] at this
    simpa [rlCells] using this
   have HS21 := Lib.hid (HS20.out.rule u21 b21 rfl rfl rfl HS20.out.kl HS20.out.kr)
   have hcs := HS21.out.loc.rd.cells
   rw [Hvn.out, Hmn.out] at hcs
   refine hK.out _ _ ?_ (fun hHeld => ?_)
   ·
    exact ⟨hcs.2.2.2.2.1, hcs.2.2.2.2.2.1⟩
   clear hK K
   try simp only [put_y]
   try simp only [Act.put]
   try simp only [put_z]
   clear hcs hbk k13 kf u21 b21 HS20 HW21
   refine wpAnyH_done (by kernel_rfl) ?_ _
   go_upto_region 26 with fail
   obtain ⟨wE, HwE⟩ := nm W21.drew
   have uE : Upd Non W21 wE := by rw [← HwE.out]; exact Upd.refl.drew
   have HS := Lib.hid (HS21.out.non uE)
   clear HS21 uE
   refine wp_region_held_drew (S := fun w' => w'.cell? ⟨w8.heap.size, 0, none⟩ = some (.string (kstr ts)) ∧ w'.cell? ⟨w8.heap.size, 1, none⟩ = some (.int .i64 q1.v) ∧ w'.cell? ⟨w8.heap.size, 2, none⟩ = some (.int .i64 q1.op) ∧ w'.cell? ⟨w8.heap.size, 3, none⟩ = some (.int .i64 q1.imm) ∧ w'.cell? ⟨w8.heap.size, 4, none⟩ = some (.int .i64 q1.iv) ∧ w'.cell? ⟨w8.heap.size, 5, none⟩ = some (.slice KA1 q1.kids.length kc1) ∧ w'.cell? ⟨w8.heap.size, 6, none⟩ = some (.int .i64 q2.v) ∧ w'.cell? ⟨w8.heap.size, 7, none⟩ = some (.int .i64 q2.op) ∧ w'.cell? ⟨w8.heap.size, 8, none⟩ = some (.int .i64 q2.imm) ∧ w'.cell? ⟨w8.heap.size, 9, none⟩ = some (.int .i64 q2.iv) ∧ w'.cell? ⟨w8.heap.size, 10, none⟩ = some (.slice KA2 q2.kids.length kc2) ∧ w'.cell? ⟨w8.heap.size, 11, none⟩ = some (.slice CA cs.length cc) ∧ w'.cell? ⟨w8.heap.size, 12, none⟩ = some (.int .i64 (vn : Nat)) ∧ w'.cell? ⟨w8.heap.size, 13, none⟩ = some (.int .i64 (mn : Nat)) ∧ w'.cell? ⟨w6.heap.size, 0, none⟩ = some (.string (kstr ts)) ∧ w'.cell? ⟨w6.heap.size, 1, none⟩ = some (.int .i64 (tp : Nat)) ∧ w'.cell? ⟨w6.heap.size, 2, none⟩ = some (.bool false)) (by kernel_rfl) (by rw [HwE.out]; exact rt_cells HS.out.rl HS.out.tk) (fun hHeld => ?_)
   rw [HwE.out] at hHeld ⊢
   refine wpT 0 ?_
   try simp only [put_y]
   try simp only [Act.put]
   try simp only [put_z]
   refine wpT 1 ?_
   try simp only [put_y]
   try simp only [Act.put]
   try simp only [put_z]
   have b0 := HS.out.res
   unfold z14 at b0
   have z0 := b0.cell 0
   have z1 := b0.cell 1
   have z2 := b0.cell 2
   have z3 := b0.cell 3
   have z4 := b0.cell 4
   have z5 := b0.cell 5
   have z6 := b0.cell 6
   have z7 := b0.cell 7
   have z8 := b0.cell 8
   have z9 := b0.cell 9
   have z10 := b0.cell 10
   have z11 := b0.cell 11
   have z12 := b0.cell 12
   have z13 := b0.cell 13
   have zf := b0.frozen
   refine wpAnyH_ready (rs := [2]) (by kernel_rfl) (by simp) ?_
   refine AllReadyH.cons rfl (fun K hK => ?_) AllReadyH.nil
   go_simp
   rw [set14_eq]
   obtain ⟨W22, HW22⟩ := nm (set14 wE w.heap.size (.string (kstr ts)) (.int .i64 q1.v) (.int .i64 q1.op) (.int .i64 q1.imm) (.int .i64 q1.iv) (.slice KA1 q1.kids.length kc1) (.int .i64 q2.v) (.int .i64 q2.op) (.int .i64 q2.imm) (.int .i64 q2.iv) (.slice KA2 q2.kids.length kc2) (.slice CA cs.length cc) (.int .i64 (vn : Nat)) (.int .i64 (mn : Nat)))
   rw [HW22.out]
   have u22 : Upd (· = w.heap.size) wE W22 := by rw [← HW22.out]; exact set14_upd _ _ _ _ _ _ _ _ _ _ _ _ _ _ _ _
   have hb22 : Blk W22 w.heap.size 33 (rlCells ⟨kstr ts, q1, q2, cs, vn, mn⟩ ⟨KA1, kc1, KA2, kc2, CA, cc⟩) := by rw [← HW22.out]; exact set14_blk b0 _ _ _ _ _ _ _ _ _ _ _ _ _ _
   have HK22 := Lib.hid (HS.out.tkr.upd u22 (by omega))
   have U22 : Upd (P2 w.heap.size) wE W22 := u22.mono (fun _ _ e => .inl e)
   have HF := HS.out.fin U22
   refine hK.out _ _ ?_ (fun hHeld => ?_)
   ·
    exact rt_cells HF.2.2.2 HF.2.2.1
   clear hK K
   try simp only [put_y]
   try simp only [Act.put]
   try simp only [put_z]
   have HB22 := Lib.hid hb22
   clear b0 zf z0 z1 z2 z3 z4 z5 z6 z7 z8 z9 z10 z11 z12 z13 hb22 HW22 HF
   have b0 := HK22.out
   unfold z3 at b0
   have y0_ := b0.cell 0
   have y1_ := b0.cell 1
   have y2_ := b0.cell 2
   have yf := b0.frozen
   refine wpAnyH_ready (rs := [3]) (by kernel_rfl) (by simp) ?_
   refine AllReadyH.cons rfl (fun K hK => ?_) AllReadyH.nil
   go_simp
   rw [set3_eq]
   obtain ⟨W23, HW23⟩ := nm (set3 W22 (w.heap.size + 1) (.string (kstr ts)) (.int .i64 (tp : Nat)) (.bool false))
   rw [HW23.out]
   have u23 : Upd (· = w.heap.size + 1) W22 W23 := by rw [← HW23.out]; exact set3_upd _ _ _ _ _
   have hb23 : Blk W23 (w.heap.size + 1) 60 #[.string (kstr ts), .int .i64 tp, .bool false] := by rw [← HW23.out]; exact set3_blk b0 _ _ _
   have HB23 := Lib.hid (HB22.out.upd u23 (by omega))
   have HK23 := Lib.hid hb23
   have HF := HS.out.fin (U22.trans (u23.mono (T := P2 w.heap.size) (fun _ _ e => .inr e)) (fun _ _ q => q))
   refine hK.out _ _ ?_ (fun hHeld => ?_)
   ·
    exact rt_cells HF.2.2.2 HF.2.2.1
   clear hK K
   try simp only [put_y]
   try simp only [Act.put]
   try simp only [put_z]
   have HFF := Lib.hid HF
   clear b0 yf y0_ y1_ y2_ hb23 HW23 HF HB22 HK22
   refine wpAnyH_ready (rs := [4]) (by kernel_rfl) (by simp) ?_
   refine AllReadyH.cons rfl (fun K hK => ?_) AllReadyH.nil
   go_simp
   refine hK.out _ _ ?_ (fun hHeld => ?_)
   ·
    exact rt_cells HFF.out.2.2.2 HFF.out.2.2.1
   clear hK K
   try simp only [put_y]
   try simp only [Act.put]
   try simp only [put_z]
   refine wpAnyH_done (by kernel_rfl) ?_ _
   go_wp2_with fail
   refine bodyPost_ret (results_cell_cell_tmp rfl _ _ w.heap.size 33 _ (0, 0) _ (w.heap.size + 1) 60 _ (0, 0) _ rfl HB23.out Try.underlying33 rfl (by kernel_rfl) rfl HK23.out Try.underlying60 rfl (by kernel_rfl)) rfl ?_
   rw [← Hr.out]
   refine ⟨⟨kstr ts, q1, q2, cs, vn, mn⟩, ⟨KA1, kc1, KA2, kc2, CA, cc⟩, ts, tp, true, y6.exp L [59], rfl, HFF.out.2.1, HFF.out.1.rd, HGE.out, HFF.out.1.own, HFF.out.1.upd, ?_⟩
   have hru := rule_fin hL (fun e he => ifF_err he) HR1.out HG1.out HR3.out HG4.out HR5.out HR6.out HG.out
   rw [Hvn.out, Hmn.out] at hru
   rw [← Hy0.out] at hru
   have h1 := HR1.out
   rw [← Hy0.out] at h1
   exact item_ru hL HX.out Hz.out h1 (by rw [Hy0.out]; exact HTP.out) hru
end Go.Proofs.Ytblkgjdhaibhgaa
