/-
  Lemmas and walks that the claim rests on, part 8 (packed by a program).
-/
import Derived.Test.YtblkgjdhaibhgaaGreatA7
import Derived.Test.YtblkgjdhaibhgaaGreatA6
import Derived.Deep.CutBlock
import Derived.Test.YtblkgjdhaibhgaaGreatA4
import Derived.Test.YtblkgjdhaibhgaaGreatA3
namespace Go.Proofs.YtblkgjdhaibhgaaGreat
open Go.RowKit
theorem ResX.weak {α : Type} {x y : Xs} {r : Except Er (α × PS)} {P Q : α → Prop} (h : ResX x y r P) (k : ∀ v, P v → Q v) : ResX x y r Q := by
 refine ⟨fun h0 => ?_, h.2⟩;have h1 := h.1 h0
 cases r with
 | error e => exact h1
 | ok v => exact ⟨h1.1, h1.2.1, k _ h1.2.2⟩
theorem exY_left_set {T : List (Bs × Nat)} {fin : Nat} {s : Bs} {y : Xs} {b : Bool} : exY T fin s { y with left := b } = { (exY T fin s y) with left := b } := by
 unfold exY Xs.fail;dsimp only
 split
 ·
  rfl
 ·
  split <;> rfl
set_option maxRecDepth 100000 in
set_option maxHeartbeats 4000000 in
theorem xRule_c {T : List (Bs × Nat)} {fin : Nat} (hT : XOk T) {w : World} {p : Nat} {A : Option Addr} {c : Nat} {x : Xs} (h : XdS w p A c T fin x) (hx : GoodX T x) :
  Calls Tryz.prog 42 #[.pointer (some ⟨p, 0, none⟩)] w (XRuleP w p A c T fin x (ruleN T fin x.ps)) := by
 have hTl := hT.len;have hxi := hx.1;obtain ⟨r, Hr⟩ := nm (ruleN T fin x.ps);rw [Hr.out]
 obtain ⟨W1, HW1⟩ := nm (w.alloc (.cells #[.string ⟨#[]⟩, .int .i64 0, .int .i64 0, .int .i64 0, .int .i64 0, .slice none 0 0, .int .i64 0, .int .i64 0, .int .i64 0, .int .i64 0, .slice none 0 0, .slice none 0 0, .int .i64 0, .int .i64 0] 43))
 have u1 : Upd Non w W1 := by rw [← HW1.out]; exact Upd.refl.alloc _
 have b1 : Blk W1 w.heap.size 43 z14 := by rw [← HW1.out]; exact Blk.new _ _ _
 have s1 : w.heap.size < W1.heap.size := by rw [← HW1.out]; simp
 obtain ⟨W2, HW2⟩ := nm (W1.alloc (.cells #[.string ⟨#[]⟩, .int .i64 0, .int .i64 0, .int .i64 0, .int .i64 0, .slice none 0 0, .int .i64 0, .int .i64 0, .int .i64 0, .int .i64 0, .slice none 0 0, .slice none 0 0, .int .i64 0, .int .i64 0] 43))
 have u2 : Upd Non W1 W2 := by rw [← HW2.out]; exact Upd.refl.alloc _
 have b2 : Blk W2 W1.heap.size 43 (rlCells ⟨⟨#[]⟩, .mk 0 0 0 0 [], .mk 0 0 0 0 [], [], 0, 0⟩ ⟨none, 0, none, 0, none, 0⟩) := by rw [← HW2.out]; exact Blk.new _ _ _
 have hpw : p < w.heap.size := h.blk.lt
 have HS2 : Hid (XRs w W2 p A c T fin x W1.heap.size ⟨⟨#[]⟩, .mk 0 0 0 0 [], .mk 0 0 0 0 [], [], 0, 0⟩ ⟨none, 0, none, 0, none, 0⟩) :=
  ⟨(h.non u1).non u2, b1.upd u2 (fun f => f), b2, CdO.none_, fun k q => (At.none_ q).elim, PtK.leaf, PtK.leaf, s1, hpw, upd_eq (u1.then_non u2)⟩
 have HXT := Lib.hid hT;have HX := Lib.hid hx;clear h hx u1 u2 b1 b2;go_enter Tryz.func42, Tryz.ntmps42
 go_upto_region 1 with fail
 rw [HW1.out]
 go_upto_region 2 with fail
 rw [HW2.out];clear HW1 HW2;obtain ⟨c0, c1, c2, c3, c4, c5, c6, c7⟩ := HS2.out.xd.cells;have cf := HS2.out.xd.blk.frozen;have hcl := HS2.out.xd.clear;obtain ⟨x0, Hx0⟩ := nm ({ x with vs := [], ms := [] } : Xs);rw [Hx0.out] at hcl;obtain ⟨W3, HW3⟩ := nm ((W2.setCell ⟨p, 5, none⟩ (.string ⟨#[]⟩)).setCell ⟨p, 6, none⟩ (.string ⟨#[]⟩));rw [HW3.out] at hcl;have e3 := HW3.out
 have u3 : Upd (· = p) W2 W3 := by rw [← e3]; exact (updCell _ p 5 _).trans (updCell _ p 6 _) (fun _ _ q => q)
 have HS3 := Lib.hid (HS2.out.call hcl u3)
 have hx0i : x0.i = x.i := by rw [← Hx0.out]
 have HG0 : Hid (GoodX T x0) := by rw [← Hx0.out]; exact ⟨HX.out.1, Nat.zero_le _, Nat.zero_le _⟩
 have HNM : Hid (nxS T x0 = nxS T x) := by rw [← Hx0.out]; rfl
 have CN := Lib.hid (xNext_c HS3.out.xd (by omega))
 have hsl : (nxS T x0).length ≤ 20000 := by
  by_cases q : x0.why = 0 ∧ x0.i < T.length
  ·
   obtain ⟨s, hs⟩ := tk_some q.2;rw [(nx_some (fin := fin) q.1 hs).1];exact (hT.tk hs).2
  ·
   rw [(nx_none (fin := fin) q).1]; simp
 have HG1 := Lib.hid (nxY_good (fin := fin) HG0.out);obtain ⟨s, Hs⟩ := nm (nxS T x0);obtain ⟨y1, Hy1⟩ := nm (nxY T fin x0);rw [Hs.out] at CN hsl HNM;rw [Hy1.out] at CN HG1;clear hcl u3 HW3 c0 c1 c2 c3 c4 c7 HS2
 go_wp2_with fail
 refine CN.out.mono ?_;rintro e w4 ⟨rfl, h4, u4⟩;have HS4 := Lib.hid (HS3.out.call h4 u4);have b4 := HS4.out.rl;unfold rlCells at b4;have k0 := b4.cell 0;have kf := b4.frozen;obtain ⟨W5, HW5⟩ := nm (w4.setCell ⟨W1.heap.size, 0, none⟩ (.string (kstr s)))
 have u5 : Upd (· = W1.heap.size) w4 W5 := by rw [← HW5.out]; exact updCell _ _ _ _
 have b5 : Blk W5 W1.heap.size 43 (rlCells ⟨kstr s, .mk 0 0 0 0 [], .mk 0 0 0 0 [], [], 0, 0⟩ ⟨none, 0, none, 0, none, 0⟩) := by
  have := b4.set_ 0 (.string (kstr s));rw [HW5.out] at this
  simpa [rlCells] using this
 have HS5 := Lib.hid (HS4.out.rule u5 b5 rfl rfl rfl HS4.out.kl HS4.out.kr);have CE := Lib.hid (xExpect_c HS5.out.xd [58] (by have := HG1.out.1.1; omega));clear b4 c5 c6 cf e3 CN h4 u4 u5 b5 HS3
 go_upto_region 5 with fail
 rw [HW5.out];clear k0 kf HS4 HW5
 go_wp2_with fail
 refine CE.out.mono ?_;rintro e w6 ⟨rfl, h6, u6⟩;have HS6 := Lib.hid (HS5.out.call h6 u6);have HG2 : Hid (GoodX T (exY T fin [58] y1)) := exY_good HG1.out.1;have HI2 : Hid (y1.i ≤ (exY T fin [58] y1).i) := exY_i;clear CE h6 u6 HS5;obtain ⟨c0, c1, c2, c3, c4, c5, c6, c7⟩ := HS6.out.xd.cells;have cf := HS6.out.xd.blk.frozen;obtain ⟨W7, HW7⟩ := nm (w6.setCell ⟨p, 7, none⟩ (.bool true))
 have e7 := HW7.out
 have HS7 : Hid (XRs w W7 p A c T fin { (exY T fin [58] y1) with left := true } W1.heap.size ⟨kstr s, .mk 0 0 0 0 [], .mk 0 0 0 0 [], [], 0, 0⟩ ⟨none, 0, none, 0, none, 0⟩) := by
  rw [← e7]; exact HS6.out.call (HS6.out.xd.setLeft true) (updCell _ _ _ _)
 have CT := Lib.hid (xTerm_any hT true T.length HS7.out.xd HG2.out rfl (fun _ => by omega));clear c0 c1 c2 c3 c4 c5 c6 HS6
 go_wp2_with fail
 refine CT.out.mono ?_;rintro e w8 ⟨q1, KA1, kc1, y3, rfl, hq, h8, hg8, _, hi8, hz8, u8, hr8⟩;have HS8 := Lib.hid (HS7.out.call h8 u8);have HQ1 := Lib.hid (HS7.out.new hq);have HG4 := Lib.hid hg8;have HI4 : Hid ((exY T fin [58] y1).i ≤ y3.i) := hi8
 have HZ1 : Hid (q1.size ≤ 20001) := by have := hg8.1; show _ ≤ _; omega
 have HR3 : Hid (ResX (exY T fin [58] y1) y3 (termF T fin true (T.length + 1) (exY T fin [58] y1).ps) (fun v => v = q1)) := ResX.weak hr8 (fun _ q => q.1);have b8 := HS8.out.rl;unfold rlCells at b8;have k1 := b8.cell 1;have k2 := b8.cell 2;have k3 := b8.cell 3;have k4 := b8.cell 4;have k5 := b8.cell 5;have kf := b8.frozen;clear c7 cf e7 HW7 CT hq h8 hg8 hi8 hz8 u8 hr8 HS7;unfold pv
 go_upto_region 8 with fail
 rw [setLf_eq];obtain ⟨W9, HW9⟩ := nm (setLf w8 W1.heap.size (.int .i64 q1.v) (.int .i64 q1.op) (.int .i64 q1.imm) (.int .i64 q1.iv) (.slice KA1 q1.kids.length kc1));rw [HW9.out]
 have u9 : Upd (· = W1.heap.size) w8 W9 := by rw [← HW9.out]; exact setLf_upd _ _ _ _ _ _ _
 have b9 : Blk W9 W1.heap.size 43 (rlCells ⟨kstr s, q1, .mk 0 0 0 0 [], [], 0, 0⟩ ⟨KA1, kc1, none, 0, none, 0⟩) := by rw [← HW9.out]; exact setLf_blk b8 _ _ _ _ _
 have HS9 := Lib.hid (HS8.out.rule u9 b9 rfl rfl rfl HQ1.out HS8.out.kr);clear b8 k1 k2 k3 k4 k5 kf u9 b9 HW9 HS8 HQ1;obtain ⟨c0, c1, c2, c3, c4, c5, c6, c7⟩ := HS9.out.xd.cells;have cf := HS9.out.xd.blk.frozen;obtain ⟨W10, HW10⟩ := nm (W9.setCell ⟨p, 7, none⟩ (.bool false));have e10 := HW10.out
 have HS10 : Hid (XRs w W10 p A c T fin { y3 with left := false } W1.heap.size ⟨kstr s, q1, .mk 0 0 0 0 [], [], 0, 0⟩ ⟨KA1, kc1, none, 0, none, 0⟩) := by
  rw [← e10]; exact HS9.out.call (HS9.out.xd.setLeft false) (updCell _ _ _ _)
 have CE := Lib.hid (xExpect_c HS10.out.xd [61, 62] (by have := HG4.out.1; show y3.i ≤ _; omega));clear c0 c1 c2 c3 c4 c5 c6 HS9
 go_wp2_with fail
 refine CE.out.mono ?_;rintro e w11 ⟨rfl, h11, u11⟩;rw [exY_left_set] at h11;have HS11 := Lib.hid (HS10.out.call h11 u11);have HG5 : Hid (GoodX T (exY T fin [61, 62] y3)) := exY_good HG4.out;have HI5 : Hid (y3.i ≤ (exY T fin [61, 62] y3).i) := exY_i;have CT := Lib.hid (xTerm_any hT false T.length HS11.out.xd HG5.out rfl (fun _ => by omega));clear CE c7 cf e10 HW10 h11 u11 HS10
 go_wp2_with fail
 refine CT.out.mono ?_;rintro e w12 ⟨q2, KA2, kc2, y5, rfl, hq, h12, hg12, hl12, hi12, hz12, u12, hr12⟩;have HS12 := Lib.hid (HS11.out.call h12 u12);have HQ2 := Lib.hid (HS11.out.new hq);have HG7 := Lib.hid hg12;have HL7 : Hid (y5.left = false) := hl12;have HI7 : Hid ((exY T fin [61, 62] y3).i ≤ y5.i) := hi12
 have HZ2 : Hid (q2.size ≤ 20001) := by have := hg12.1; show _ ≤ _; omega
 have HR5 : Hid (ResX (exY T fin [61, 62] y3) y5 (termF T fin false (T.length + 1) (exY T fin [61, 62] y3).ps) (fun v => v = q2)) := ResX.weak hr12 (fun _ q => q.1)
 have b12 := HS12.out.rl;unfold rlCells at b12;have k6 := b12.cell 6;have k7 := b12.cell 7;have k8 := b12.cell 8;have k9 := b12.cell 9;have k10 := b12.cell 10;have kf := b12.frozen;clear CT hq h12 hg12 hl12 hi12 hz12 u12 hr12 HS11;unfold pv
 go_upto_region 11 with fail
 rw [setRt_eq];obtain ⟨W13, HW13⟩ := nm (setRt w12 W1.heap.size (.int .i64 q2.v) (.int .i64 q2.op) (.int .i64 q2.imm) (.int .i64 q2.iv) (.slice KA2 q2.kids.length kc2));rw [HW13.out]
 have u13 : Upd (· = W1.heap.size) w12 W13 := by rw [← HW13.out]; exact setRt_upd _ _ _ _ _ _ _
 have b13 : Blk W13 W1.heap.size 43 (rlCells ⟨kstr s, q1, q2, [], 0, 0⟩ ⟨KA1, kc1, KA2, kc2, none, 0⟩) := by rw [← HW13.out]; exact setRt_blk b12 _ _ _ _ _
 have HS13 := Lib.hid (HS12.out.rule u13 b13 rfl rfl rfl HS12.out.kl HQ2.out);have CI := Lib.hid (xAt_c HS13.out.xd [105, 102]);obtain ⟨z, Hz⟩ := nm (y5.why == 0 && decide (tkF T y5.i = some [105, 102]));rw [Hz.out] at CI;clear b12 k6 k7 k8 k9 k10 kf u13 b13 HW13 HS12 HQ2
 go_upto_if 30 with fail
 refine CI.out.mono ?_;rintro e w14 ⟨rfl, u14⟩;have HS14 := Lib.hid (HS13.out.non u14);clear CI u14 HS13;have HT := HXT
 go_upto_if 30 with fail
 go_cut [] (fun wx => ∃ (CA : Option Addr) (cc : Nat) (cs : List Cd) (y6 : Xs), Hid (XRs w wx p A c T fin y6 W1.heap.size ⟨kstr s, q1, q2, cs, 0, 0⟩ ⟨KA1, kc1, KA2, kc2, CA, cc⟩) ∧ Hid (GoodX T y6) ∧ Hid (y5.i ≤ y6.i) ∧ Hid (ResX y5 y6 (ifF T fin (T.length + 1) y5.ps) (fun v => v = cs)) ∧ cs.length ≤ T.length + 2)
 case first =>
  cases z with
  | false =>
   go_wp2_with fail
   go_meet
   case rel => exact ⟨none, 0, [], y5, HS14, HG7, Nat.le_refl _, ifX_none Hz.out, Nat.zero_le _⟩
  | true =>
   have hz2 := Hz.out;simp only [Bool.and_eq_true, beq_iff_eq, decide_eq_true_eq] at hz2;have H05 : Hid (y5.why = 0) := hz2.1;have HTK : Hid (tkF T y5.i = some [105, 102]) := hz2.2;have hiT := xtk_lt hz2.2;obtain ⟨c0, c1, c2, c3, c4, c5, c6, c7⟩ := HS14.out.xd.cells;have cf := HS14.out.xd.blk.frozen;have hs18 := HS14.out.call (HS14.out.xd.setI (y5.i + 1)) (updCell _ _ _ _)
   have hg18 : GoodX T { y5 with i := y5.i + 1 } := ⟨hiT, Nat.le_succ_of_le HG7.out.2.1, Nat.le_succ_of_le HG7.out.2.2⟩;obtain ⟨i, Hi⟩ := nm y5.i;rw [Hi.out] at c1 hiT hs18;rw [show (.int .i64 ((i + 1 : Nat) : Int) : Value) = .int .i64 ((i : Int) + 1) from rfl] at hs18;obtain ⟨W18, HW18⟩ := nm (w14.setCell ⟨p, 1, none⟩ (.int .i64 ((i : Int) + 1)));have e18 := HW18.out;rw [e18, ← Hi.out] at hs18
   have HS18 := Lib.hid hs18;have HG := Lib.hid hg18;have HL : Hid (({ y5 with i := y5.i + 1 } : Xs).left = false) := HL7.out;clear hz2 c0 c2 c3 c4 c5 c6 c7 hs18 hg18
   go_upto_region 13 with fail
   clear c1 cf e18 HW18
   obtain ⟨yy, CA, cc, cs, Hyy, Hcs, HS, HG, HL⟩ : ∃ (yy : Xs) (CA : Option Addr) (cc : Nat) (cs : List Cd), Hid (yy = { y5 with i := y5.i + 1 }) ∧ Hid (cs = []) ∧ Hid (XRs w W18 p A c T fin yy W1.heap.size ⟨kstr s, q1, q2, cs, 0, 0⟩ ⟨KA1, kc1, KA2, kc2, CA, cc⟩) ∧ Hid (GoodX T yy) ∧ Hid (yy.left = false) := ⟨_, none, 0, [], rfl, rfl, HS18, HG, HL⟩
   have hcl : cs.length ≤ 100000 := by rw [Hcs.out]; exact Nat.zero_le _
   clear HS18 HS14
   go_cut [] (fun wx => ∃ (A8 : Option Addr) (c8 : Nat) (cd : Cd) (y' : Xs), Hid (XRs w wx p A c T fin y' W1.heap.size ⟨kstr s, q1, q2, cs ++ [cd], 0, 0⟩ ⟨KA1, kc1, KA2, kc2, A8, c8⟩) ∧ Hid (GoodX T y') ∧ Hid (y'.left = false) ∧ Hid (yy.i ≤ y'.i) ∧ Hid (ResX yy y' (pcondF T fin yy.ps) (fun v => v = cd)))
   case first =>
    obtain ⟨wD, HwD⟩ := nm W18.drew
    have uD : Upd Non W18 wD := by rw [← HwD.out]; exact Upd.refl.drew
    have HS := Lib.hid (HS.out.non uD);refine wp_region_held_drew (S := fun _ => True) (by kernel_rfl) trivial (fun hHeld => ?_);rw [HwD.out];clear uD;refine wpT 0 ?_
    try simp only [put_y, put_z]
    refine wpT 2 ?_
    try simp only [put_y, put_z]
    refine wpAnyH_ready (rs := [1, 3]) (by kernel_rfl) (by simp) ?_;refine AllReadyH.cons rfl (fun K hK => ?_) (AllReadyH.cons rfl (fun K hK => ?_) AllReadyH.nil)
    ·
     skip;have hbk := HS.out.rl;unfold rlCells at hbk;have k11 := hbk.cell 11;go_simp;refine hK.out _ _ ?_ (fun hHeld => ?_)
     ·
      exact trivial
     clear hK K
     try simp only [put_y, put_z]
     clear hbk k11;refine wpAnyH_ready (rs := [3]) (by kernel_rfl) (by simp) ?_;refine AllReadyH.cons rfl (fun K hK => ?_) AllReadyH.nil;go_simp;refine (xCond_c HT.out HS.out.xd HG.out HL.out).mono ?_;rintro e wc6 ⟨cd, y', rfl, hy', hg', hl', hi', hu', hres⟩;have HS := Lib.hid (HS.out.call hy' hu');have HG2 := Lib.hid hg';have HL2 : Hid (y'.left = false) := hl'.trans HL.out
     have HI2 : Hid (yy.i ≤ y'.i) := hi';have HRS := Lib.hid hres;clear hy' hg' hu' hres hl' hi'
     go_wp2_with fail
     refine hK.out _ _ ?_ (fun hHeld => ?_)
     ·
      exact trivial
     clear hK K
     try simp only [put_y, put_z]
     refine wpAnyH_ready (rs := [4]) (by kernel_rfl) (by simp) ?_;refine AllReadyH.cons rfl (fun K hK => ?_) AllReadyH.nil;go_simp;have HS := Lib.hid (HS.out.non (Upd.refl.alloc (.cells #[.int .i64 cd.kind, .int .i64 cd.a, .int .i64 cd.b, .int .i64 cd.n] 69) (S := Non)));refine hK.out _ _ ?_ (fun hHeld => ?_)
     ·
      exact trivial
     clear hK K
     try simp only [put_y, put_z]
     refine wpAnyH_ready (rs := [5]) (by kernel_rfl) (by simp) ?_;refine AllReadyH.cons rfl (fun K hK => ?_) AllReadyH.nil;have hko := HS.out.cds;unfold CdO at hko;refine step_app rfl rfl T_conds rfl hko rfl (Sl.new _ _ _) rfl (by simp [Value.oneCell']) (by simp only [maxLen]; omega) (by omega) ?_;intro A8 c8 w8' ho8 hu8 hat8;have hcd := CdO.of rfl ho8
     have hbk := HS.out.rl.upd hu8 (fun q => Nat.lt_irrefl _ (HS.out.cat _ q));unfold rlCells at hbk;have k11 := hbk.cell 11;have kf := hbk.frozen;clear hko ho8;refine hK.out _ _ ?_ (fun hHeld => ?_)
     ·
      exact trivial
     clear hK K
     try simp only [put_y, put_z]
     refine wpT 6 ?_
     try simp only [put_y, put_z]
     refine wpAnyH_ready (rs := [7]) (by kernel_rfl) (by simp) ?_;refine AllReadyH.cons rfl (fun K hK => ?_) AllReadyH.nil;go_simp;have hb9 := hbk.set_ 11 (.slice A8 (cs ++ [cd]).length c8);obtain ⟨w9, Hw9⟩ := nm (w8'.setCell ⟨W1.heap.size, 11, none⟩ (.slice A8 (cs ++ [cd]).length c8));have e9 := Hw9.out;rw [e9] at hb9;rw [List.length_append, List.length_singleton] at e9;rw [e9]
     have u9 : Upd (· = W1.heap.size) w8' w9 := by rw [← Hw9.out]; exact updCell _ _ _ _
     have HS := Lib.hid (HS.out.app hu8 hcd hat8 u9 (by simpa [rlCells] using hb9));clear hbk k11 kf hcd hu8 hat8 hb9 u9 Hw9 e9;refine hK.out _ _ ?_ (fun hHeld => ?_)
     ·
      exact trivial
     clear hK K
     try simp only [put_y, put_z]
     refine wpAnyH_done (by kernel_rfl) ?_ _
     go_wp2_with fail
     go_meet
     case rel => exact ⟨A8, c8, cd, y', HS, HG2, HL2, HI2, HRS⟩
    ·
     skip;go_simp;refine (xCond_c HT.out HS.out.xd HG.out HL.out).mono ?_;rintro e wc6 ⟨cd, y', rfl, hy', hg', hl', hi', hu', hres⟩;have HS := Lib.hid (HS.out.call hy' hu');have HG2 := Lib.hid hg';have HL2 : Hid (y'.left = false) := hl'.trans HL.out;have HI2 : Hid (yy.i ≤ y'.i) := hi';have HRS := Lib.hid hres;clear hy' hg' hu' hres hl' hi'
     go_wp2_with fail
     refine hK.out _ _ ?_ (fun hHeld => ?_)
     ·
      exact trivial
     clear hK K
     try simp only [put_y, put_z]
     have hbk := HS.out.rl;unfold rlCells at hbk;have k11 := hbk.cell 11
     refine wpAnyH_takeM (fun w' => w'.cell? ⟨W1.heap.size, 11, none⟩ = some (.slice CA cs.length cc)) (calm_cell _ _) [5, 6, 7] (i := 1) (v := ?_) rfl (by kernel_rfl) (by kernel_rfl) (by kernel_rfl) (by kernel_rfl) (fun _ _ _ h => h) (Or.inl ⟨by rfl, ?_⟩) (k11) (by assumption) ?_
     rotate_left
     ·
      intro w hSw; (try dsimp only at hSw); go_simp; try with_reducible rfl
     try simp only [put_y, put_z]
     clear hbk k11;refine wpAnyH_ready (rs := [4]) (by kernel_rfl) (by simp) ?_;refine AllReadyH.cons rfl (fun K hK => ?_) AllReadyH.nil;go_simp;have HS := Lib.hid (HS.out.non (Upd.refl.alloc (.cells #[.int .i64 cd.kind, .int .i64 cd.a, .int .i64 cd.b, .int .i64 cd.n] 69) (S := Non)));refine hK.out _ _ ?_ (fun hHeld => ?_)
     ·
      exact trivial
     clear hK K
     try simp only [put_y, put_z]
     refine wpAnyH_ready (rs := [5]) (by kernel_rfl) (by simp) ?_;refine AllReadyH.cons rfl (fun K hK => ?_) AllReadyH.nil;have hko := HS.out.cds;unfold CdO at hko;refine step_app rfl rfl T_conds rfl hko rfl (Sl.new _ _ _) rfl (by simp [Value.oneCell']) (by simp only [maxLen]; omega) (by omega) ?_;intro A8 c8 w8' ho8 hu8 hat8;have hcd := CdO.of rfl ho8
     have hbk := HS.out.rl.upd hu8 (fun q => Nat.lt_irrefl _ (HS.out.cat _ q));unfold rlCells at hbk;have k11 := hbk.cell 11;have kf := hbk.frozen;clear hko ho8;refine hK.out _ _ ?_ (fun hHeld => ?_)
     ·
      exact trivial
     clear hK K
     try simp only [put_y, put_z]
     refine wpT 6 ?_
     try simp only [put_y, put_z]
     refine wpAnyH_ready (rs := [7]) (by kernel_rfl) (by simp) ?_;refine AllReadyH.cons rfl (fun K hK => ?_) AllReadyH.nil;go_simp;have hb9 := hbk.set_ 11 (.slice A8 (cs ++ [cd]).length c8);obtain ⟨w9, Hw9⟩ := nm (w8'.setCell ⟨W1.heap.size, 11, none⟩ (.slice A8 (cs ++ [cd]).length c8));have e9 := Hw9.out;rw [e9] at hb9;rw [List.length_append, List.length_singleton] at e9;rw [e9]
     have u9 : Upd (· = W1.heap.size) w8' w9 := by rw [← Hw9.out]; exact updCell _ _ _ _
     have HS := Lib.hid (HS.out.app hu8 hcd hat8 u9 (by simpa [rlCells] using hb9));clear hbk k11 kf hcd hu8 hat8 hb9 u9 Hw9 e9;refine hK.out _ _ ?_ (fun hHeld => ?_)
     ·
      exact trivial
     clear hK K
     try simp only [put_y, put_z]
     refine wpAnyH_done (by kernel_rfl) ?_ _
     go_wp2_with fail
     go_meet
     case rel => exact ⟨A8, c8, cd, y', HS, HG2, HL2, HI2, HRS⟩
   case rest =>
    obtain ⟨CB, cb, cd, y6, HS, HG, HL, HI, HRS⟩ := hcut
    have HC : Hid (CdX T fin y5 y6 (cs ++ [cd]) (T.length + 1)) := by
     show CdX T fin y5 y6 (cs ++ [cd]) (T.length + 1);rw [Hcs.out];have h2 := HRS.out;rw [Hyy.out] at h2;exact CdX.first HTK.out H05.out h2
    have HI6 : Hid (y5.i ≤ y6.i) := by have h3 := HI.out; rw [Hyy.out] at h3; exact Nat.le_of_succ_le h3
    have hcb : (cs ++ [cd]).length + (T.length + 1) ≤ T.length + 2 := by rw [Hcs.out]; simp; omega
    clear Hyy Hcs HRS hcl HTK H05 HI
    go_wp2_with fail
    go_loopg [] (T.length + 1) (fun g wr => ∃ (fu : Nat) (CB : Option Addr) (cb : Nat) (cs : List Cd) (y : Xs), Hid (g = fu) ∧ Hid (XRs w wr p A c T fin y W1.heap.size ⟨kstr s, q1, q2, cs, 0, 0⟩ ⟨KA1, kc1, KA2, kc2, CB, cb⟩) ∧ Hid (GoodX T y) ∧ Hid (y.left = false) ∧ Hid (CdX T fin y5 y cs fu) ∧ Hid (y5.i ≤ y.i) ∧ cs.length + fu ≤ T.length + 2)
    case atStart => exact ⟨_, CB, cb, cs ++ [cd], y6, rfl, HS, HG, HL, HC, HI6, hcb⟩
    case round =>
     clear HS HG HL HC hcb HI6;obtain ⟨fu, CA, cc, cs, y, Hfu, HS, HG, HL, HC, HI, hcb⟩ := hrel;have CI := Lib.hid (xAt_c HS.out.xd [44]);obtain ⟨z, Hz3⟩ := nm (y.why == 0 && decide (tkF T y.i = some [44]));rw [Hz3.out] at CI
     go_wp2_with fail
     refine CI.out.mono ?_;rintro e wi ⟨rfl, hui⟩;have HSi := Lib.hid (HS.out.non hui);clear HS CI hui
     cases z with
     | false =>
      go_wp2_with fail
      go_meet
      case rel => exact ⟨CA, cc, cs, y, HSi, HG, HI, CdX.done HC.out Hz3.out, by omega⟩
     | true =>
      have hz2 := Hz3.out;simp only [Bool.and_eq_true, beq_iff_eq, decide_eq_true_eq] at hz2;have H05 : Hid (y.why = 0) := hz2.1;have HTK : Hid (tkF T y.i = some [44]) := hz2.2;have hiT := xtk_lt hz2.2;obtain ⟨c0, c1, c2, c3, c4, c5, c6, c7⟩ := HSi.out.xd.cells;have cf := HSi.out.xd.blk.frozen;have hs18 := HSi.out.call (HSi.out.xd.setI (y.i + 1)) (updCell _ _ _ _)
      have hg18 : GoodX T { y with i := y.i + 1 } := ⟨hiT, Nat.le_succ_of_le HG.out.2.1, Nat.le_succ_of_le HG.out.2.2⟩;have HIT := Lib.hid hiT;obtain ⟨i, Hi⟩ := nm y.i;rw [Hi.out] at c1 hiT hs18;rw [show (.int .i64 ((i + 1 : Nat) : Int) : Value) = .int .i64 ((i : Int) + 1) from rfl] at hs18;obtain ⟨W18, HW18⟩ := nm (wi.setCell ⟨p, 1, none⟩ (.int .i64 ((i : Int) + 1)));have e18 := HW18.out
      rw [e18, ← Hi.out] at hs18
      obtain ⟨yy, Hyy, HS, HG, HL⟩ : ∃ (yy : Xs), Hid (yy = { y with i := y.i + 1 }) ∧ Hid (XRs w W18 p A c T fin yy W1.heap.size ⟨kstr s, q1, q2, cs, 0, 0⟩ ⟨KA1, kc1, KA2, kc2, CA, cc⟩) ∧ Hid (GoodX T yy) ∧ Hid (yy.left = false) := ⟨_, rfl, hs18, hg18, HL.out⟩
      have hcl : cs.length ≤ 100002 := by omega
      clear hz2 c0 c2 c3 c4 c5 c6 c7 hs18 hg18 HSi
      go_upto_region 16 with fail
      clear c1 cf e18 HW18;obtain ⟨wD, HwD⟩ := nm W18.drew
      have uD : Upd Non W18 wD := by rw [← HwD.out]; exact Upd.refl.drew
      have HS := Lib.hid (HS.out.non uD);refine wp_region_held_drew (S := fun _ => True) (by kernel_rfl) trivial (fun hHeld => ?_);rw [HwD.out];clear uD;refine wpT 0 ?_
      try simp only [put_y, put_z]
      refine wpT 2 ?_
      try simp only [put_y, put_z]
      refine wpAnyH_ready (rs := [1, 3]) (by kernel_rfl) (by simp) ?_;refine AllReadyH.cons rfl (fun K hK => ?_) (AllReadyH.cons rfl (fun K hK => ?_) AllReadyH.nil)
      ·
       skip;have hbk := HS.out.rl;unfold rlCells at hbk;have k11 := hbk.cell 11;go_simp;refine hK.out _ _ ?_ (fun hHeld => ?_)
       ·
        exact trivial
       clear hK K
       try simp only [put_y, put_z]
       clear hbk k11;refine wpAnyH_ready (rs := [3]) (by kernel_rfl) (by simp) ?_;refine AllReadyH.cons rfl (fun K hK => ?_) AllReadyH.nil;go_simp;refine (xCond_c HT.out HS.out.xd HG.out HL.out).mono ?_;rintro e wc6 ⟨cd, y', rfl, hy', hg', hl', hi', hu', hres⟩;have HS := Lib.hid (HS.out.call hy' hu');have HG2 := Lib.hid hg';have HL2 : Hid (y'.left = false) := hl'.trans HL.out
       have HI2 : Hid (yy.i ≤ y'.i) := hi';have HRS := Lib.hid hres;clear hy' hg' hu' hres hl' hi'
       go_wp2_with fail
       refine hK.out _ _ ?_ (fun hHeld => ?_)
       ·
        exact trivial
       clear hK K
       try simp only [put_y, put_z]
       refine wpAnyH_ready (rs := [4]) (by kernel_rfl) (by simp) ?_;refine AllReadyH.cons rfl (fun K hK => ?_) AllReadyH.nil;go_simp;have HS := Lib.hid (HS.out.non (Upd.refl.alloc (.cells #[.int .i64 cd.kind, .int .i64 cd.a, .int .i64 cd.b, .int .i64 cd.n] 69) (S := Non)));refine hK.out _ _ ?_ (fun hHeld => ?_)
       ·
        exact trivial
       clear hK K
       try simp only [put_y, put_z]
       refine wpAnyH_ready (rs := [5]) (by kernel_rfl) (by simp) ?_;refine AllReadyH.cons rfl (fun K hK => ?_) AllReadyH.nil;have hko := HS.out.cds;unfold CdO at hko;refine step_app rfl rfl T_conds rfl hko rfl (Sl.new _ _ _) rfl (by simp [Value.oneCell']) (by simp only [maxLen]; omega) (by omega) ?_;intro A8 c8 w8' ho8 hu8 hat8;have hcd := CdO.of rfl ho8
       have hbk := HS.out.rl.upd hu8 (fun q => Nat.lt_irrefl _ (HS.out.cat _ q));unfold rlCells at hbk;have k11 := hbk.cell 11;have kf := hbk.frozen;clear hko ho8;refine hK.out _ _ ?_ (fun hHeld => ?_)
       ·
        exact trivial
       clear hK K
       try simp only [put_y, put_z]
       refine wpT 6 ?_
       try simp only [put_y, put_z]
       refine wpAnyH_ready (rs := [7]) (by kernel_rfl) (by simp) ?_;refine AllReadyH.cons rfl (fun K hK => ?_) AllReadyH.nil;go_simp;have hb9 := hbk.set_ 11 (.slice A8 (cs ++ [cd]).length c8);obtain ⟨w9, Hw9⟩ := nm (w8'.setCell ⟨W1.heap.size, 11, none⟩ (.slice A8 (cs ++ [cd]).length c8));have e9 := Hw9.out;rw [e9] at hb9;rw [List.length_append, List.length_singleton] at e9;rw [e9]
       have u9 : Upd (· = W1.heap.size) w8' w9 := by rw [← Hw9.out]; exact updCell _ _ _ _
       have HS := Lib.hid (HS.out.app hu8 hcd hat8 u9 (by simpa [rlCells] using hb9));clear hbk k11 kf hcd hu8 hat8 hb9 u9 Hw9 e9;refine hK.out _ _ ?_ (fun hHeld => ?_)
       ·
        exact trivial
       clear hK K
       try simp only [put_y, put_z]
       refine wpAnyH_done (by kernel_rfl) ?_ _
       have HM : Hid (0 < fu ∧ CdX T fin y5 y' (cs ++ [cd]) (fu - 1)) := by
        have h2 := HRS.out;have h3 := HI2.out;rw [Hyy.out] at h2 h3;exact CdX.more HC.out HTK.out H05.out HIT.out h2 h3
       have hg0 := HM.out.1;have HC2 : Hid (CdX T fin y5 y' (cs ++ [cd]) (fu - 1)) := HM.out.2
       have HI3 : Hid (y5.i ≤ y'.i) := by
        have h3 := HI2.out;rw [Hyy.out] at h3;have h4 := HI.out;exact Nat.le_trans h4 (Nat.le_of_succ_le h3)
       clear HM HRS Hyy HC HTK H05
       go_wp2_with fail
       go_roundg (fu - 1)
       case measure => rw [Hfu.out]; omega
       case rel => exact ⟨fu - 1, A8, c8, cs ++ [cd], y', rfl, HS, HG2, HL2, HC2, HI3, by rw [List.length_append, List.length_singleton]; omega⟩
      ·
       skip;go_simp;refine (xCond_c HT.out HS.out.xd HG.out HL.out).mono ?_;rintro e wc6 ⟨cd, y', rfl, hy', hg', hl', hi', hu', hres⟩;have HS := Lib.hid (HS.out.call hy' hu');have HG2 := Lib.hid hg';have HL2 : Hid (y'.left = false) := hl'.trans HL.out;have HI2 : Hid (yy.i ≤ y'.i) := hi';have HRS := Lib.hid hres;clear hy' hg' hu' hres hl' hi'
       go_wp2_with fail
       refine hK.out _ _ ?_ (fun hHeld => ?_)
       ·
        exact trivial
       clear hK K
       try simp only [put_y, put_z]
       have hbk := HS.out.rl;unfold rlCells at hbk;have k11 := hbk.cell 11
       refine wpAnyH_takeM (fun w' => w'.cell? ⟨W1.heap.size, 11, none⟩ = some (.slice CA cs.length cc)) (calm_cell _ _) [5, 6, 7] (i := 1) (v := ?_) rfl (by kernel_rfl) (by kernel_rfl) (by kernel_rfl) (by kernel_rfl) (fun _ _ _ h => h) (Or.inl ⟨by rfl, ?_⟩) (k11) (by assumption) ?_
       rotate_left
       ·
        intro w hSw; (try dsimp only at hSw); go_simp; try with_reducible rfl
       try simp only [put_y, put_z]
       clear hbk k11;refine wpAnyH_ready (rs := [4]) (by kernel_rfl) (by simp) ?_;refine AllReadyH.cons rfl (fun K hK => ?_) AllReadyH.nil;go_simp;have HS := Lib.hid (HS.out.non (Upd.refl.alloc (.cells #[.int .i64 cd.kind, .int .i64 cd.a, .int .i64 cd.b, .int .i64 cd.n] 69) (S := Non)));refine hK.out _ _ ?_ (fun hHeld => ?_)
       ·
        exact trivial
       clear hK K
       try simp only [put_y, put_z]
       refine wpAnyH_ready (rs := [5]) (by kernel_rfl) (by simp) ?_;refine AllReadyH.cons rfl (fun K hK => ?_) AllReadyH.nil;have hko := HS.out.cds;unfold CdO at hko;refine step_app rfl rfl T_conds rfl hko rfl (Sl.new _ _ _) rfl (by simp [Value.oneCell']) (by simp only [maxLen]; omega) (by omega) ?_;intro A8 c8 w8' ho8 hu8 hat8;have hcd := CdO.of rfl ho8
       have hbk := HS.out.rl.upd hu8 (fun q => Nat.lt_irrefl _ (HS.out.cat _ q));unfold rlCells at hbk;have k11 := hbk.cell 11;have kf := hbk.frozen;clear hko ho8;refine hK.out _ _ ?_ (fun hHeld => ?_)
       ·
        exact trivial
       clear hK K
       try simp only [put_y, put_z]
       refine wpT 6 ?_
       try simp only [put_y, put_z]
       refine wpAnyH_ready (rs := [7]) (by kernel_rfl) (by simp) ?_;refine AllReadyH.cons rfl (fun K hK => ?_) AllReadyH.nil;go_simp;have hb9 := hbk.set_ 11 (.slice A8 (cs ++ [cd]).length c8);obtain ⟨w9, Hw9⟩ := nm (w8'.setCell ⟨W1.heap.size, 11, none⟩ (.slice A8 (cs ++ [cd]).length c8));have e9 := Hw9.out;rw [e9] at hb9;rw [List.length_append, List.length_singleton] at e9;rw [e9]
       have u9 : Upd (· = W1.heap.size) w8' w9 := by rw [← Hw9.out]; exact updCell _ _ _ _
       have HS := Lib.hid (HS.out.app hu8 hcd hat8 u9 (by simpa [rlCells] using hb9));clear hbk k11 kf hcd hu8 hat8 hb9 u9 Hw9 e9;refine hK.out _ _ ?_ (fun hHeld => ?_)
       ·
        exact trivial
       clear hK K
       try simp only [put_y, put_z]
       refine wpAnyH_done (by kernel_rfl) ?_ _
       have HM : Hid (0 < fu ∧ CdX T fin y5 y' (cs ++ [cd]) (fu - 1)) := by
        have h2 := HRS.out;have h3 := HI2.out;rw [Hyy.out] at h2 h3;exact CdX.more HC.out HTK.out H05.out HIT.out h2 h3
       have hg0 := HM.out.1;have HC2 : Hid (CdX T fin y5 y' (cs ++ [cd]) (fu - 1)) := HM.out.2
       have HI3 : Hid (y5.i ≤ y'.i) := by
        have h3 := HI2.out;rw [Hyy.out] at h3;have h4 := HI.out;exact Nat.le_trans h4 (Nat.le_of_succ_le h3)
       clear HM HRS Hyy HC HTK H05
       go_wp2_with fail
       go_roundg (fu - 1)
       case measure => rw [Hfu.out]; omega
       case rel => exact ⟨fu - 1, A8, c8, cs ++ [cd], y', rfl, HS, HG2, HL2, HC2, HI3, by rw [List.length_append, List.length_singleton]; omega⟩
 case rest =>
  clear HG7 HL7 HS14;obtain ⟨CA, cc, cs, y6, HS, HG, HI6, HR6, hcl⟩ := hcut;have CE := Lib.hid (xExpect_c HS.out.xd [59] (by have := HG.out.1; omega))
  go_wp2_with fail
  refine CE.out.mono ?_;rintro e w19 ⟨rfl, h19, u19⟩;have HGE : Hid (GoodX T (exY T fin [59] y6)) := exY_good HG.out;have HIE : Hid (y6.i ≤ (exY T fin [59] y6).i) := exY_i;have HRU := Lib.hid (ruleX_fin Hx0.out.symm Hs.out Hy1.out HR3.out HR5.out HR6.out);obtain ⟨yE, HyE⟩ := nm (exY T fin [59] y6);rw [HyE.out] at h19 HGE HIE HRU;have HS19 := Lib.hid (HS.out.call h19 u19);clear CE h19 u19 HS
  obtain ⟨c0, c1, c2, c3, c4, c5, c6, c7⟩ := HS19.out.xd.cells;have cf := HS19.out.xd.blk.frozen;have hvs : (kstr yE.vs).size = yE.vs.length := kstr_size _;have hms : (kstr yE.ms).size = yE.ms.length := kstr_size _;obtain ⟨sv, Hsv⟩ := nm (kstr yE.vs);obtain ⟨sm, Hsm⟩ := nm (kstr yE.ms);obtain ⟨vn, Hvn⟩ := nm yE.vs.length;obtain ⟨mn, Hmn⟩ := nm yE.ms.length;rw [Hsv.out] at c5 hvs
  rw [Hsm.out] at c6 hms;rw [Hvn.out] at hvs HRU;rw [Hmn.out] at hms HRU;have b19 := HS19.out.rl;unfold rlCells at b19;have k12 := b19.cell 12;have k13 := b19.cell 13;have kf := b19.frozen;obtain ⟨W20, HW20⟩ := nm ((w19.setCell ⟨W1.heap.size, 12, none⟩ (.int .i64 (vn : Nat))).setCell ⟨W1.heap.size, 13, none⟩ (.int .i64 (mn : Nat)));have e20 := HW20.out
  have u20 : Upd (· = W1.heap.size) w19 W20 := by rw [← HW20.out]; exact (updCell _ _ 12 _).trans (updCell _ _ 13 _) (fun _ _ q => q)
  have b20 : Blk W20 W1.heap.size 43 (rlCells ⟨kstr s, q1, q2, cs, vn, mn⟩ ⟨KA1, kc1, KA2, kc2, CA, cc⟩) := by
   have := (b19.set_ 12 (.int .i64 (vn : Nat))).set_ 13 (.int .i64 (mn : Nat));rw [HW20.out] at this
   simpa [rlCells] using this
  have HS20 := Lib.hid (HS19.out.rule u20 b20 rfl rfl rfl HS19.out.kl HS19.out.kr);clear c0 c1 c2 c3 c4 c7 b19 u20 b20 HW20
  go_upto_region 20 with fail
  clear c5 c6 cf k12 k13 kf e20 HS19;have b21 := HS20.out.rl;unfold rlCells at b21;have k0 := b21.cell 0;have k1 := b21.cell 1;have k2 := b21.cell 2;have k3 := b21.cell 3;have k4 := b21.cell 4;have k5 := b21.cell 5;have k6 := b21.cell 6;have k7 := b21.cell 7;have k8 := b21.cell 8;have k9 := b21.cell 9;have k10 := b21.cell 10;have k11 := b21.cell 11;have k12 := b21.cell 12;have k13 := b21.cell 13
  have b0 := HS20.out.res;unfold z14 at b0;have z0 := b0.cell 0;have z1 := b0.cell 1;have z2 := b0.cell 2;have z3 := b0.cell 3;have z4 := b0.cell 4;have z5 := b0.cell 5;have z6 := b0.cell 6;have z7 := b0.cell 7;have z8 := b0.cell 8;have z9 := b0.cell 9;have z10 := b0.cell 10;have z11 := b0.cell 11;have z12 := b0.cell 12;have z13 := b0.cell 13;have zf := b0.frozen;have HB0 := Lib.hid b0
  clear b21 b0
  go_wp2_with fail
  rw [set14_eq]
  have u22 := set14_upd W20 w.heap.size (.string (kstr s)) (.int .i64 q1.v) (.int .i64 q1.op) (.int .i64 q1.imm) (.int .i64 q1.iv) (.slice KA1 q1.kids.length kc1) (.int .i64 q2.v) (.int .i64 q2.op) (.int .i64 q2.imm) (.int .i64 q2.iv) (.slice KA2 q2.kids.length kc2) (.slice CA cs.length cc) (.int .i64 (vn : Nat)) (.int .i64 (mn : Nat))
  have HF := Lib.hid (HS20.out.fin_ u22)
  refine bodyPost_ret (results_cell_row rfl _ _ w.heap.size 43 _ (0, 0) _ rfl (set14_blk HB0.out _ _ _ _ _ _ _ _ _ _ _ _ _ _) Tryz.underlying43 rfl (by kernel_rfl)) rfl ?_
  rw [← Hr.out]
  refine ⟨⟨kstr s, q1, q2, cs, vn, mn⟩, ⟨KA1, kc1, KA2, kc2, CA, cc⟩, yE, rfl, HF.out.2.1, HF.out.1, HGE.out, ?_, HF.out.2.2, ⟨?_, ?_, ?_, ?_⟩, by rw [← HNM.out], HRU.out⟩
  ·
   have e1 := HG1.out.2.1;have e2 := HI2.out;have e3 := HI4.out;have e4 := HI5.out;have e5 := HI7.out;have e6 := HI6.out;have e7 := HIE.out;omega
  ·
   have := HZ1.out; show q1.size ≤ _; omega
  ·
   have := HZ2.out; show q2.size ≤ _; omega
  ·
   show cs.length ≤ _; omega
  ·
   show (kstr s).size ≤ _; rw [kstr_size]; omega
set_option maxRecDepth 100000 in
set_option maxHeartbeats 4000000 in
theorem rItem_c {L : List Tok} {T : List (Bs × Nat)} {fin : Nat} (hL : LOk L T fin) (ax : Bs → Option Rl)
  (HAX : Hid ((∃ i, tkF T i = some [97, 120, 105, 111, 109]) → ∀ (s : Bs) (w : World), Calls Tryz.prog 18 #[.string (kstr s)] w (AxP ax s w)))
  {w : World} {p : Nat} {A : Option Addr} {c : Nat} {x : St} (h : RdS w p A c L x) (hx : Good T x) :
  Calls Tryz.prog 29 #[.pointer (some ⟨p, 0, none⟩)] w (ItemP T w p A c L x (itemF T fin ax (psOf x))) := by
 have hiL : x.i < L.length := by have := hL.lt; have := hx.1; omega
 have hLl := hL.len;obtain ⟨r, Hr⟩ := nm (itemF T fin ax (psOf x));rw [Hr.out]
 obtain ⟨W1, HW1⟩ := nm (w.alloc (.cells #[.string ⟨#[]⟩, .int .i64 0, .int .i64 0, .int .i64 0, .int .i64 0, .slice none 0 0, .int .i64 0, .int .i64 0, .int .i64 0, .int .i64 0, .slice none 0 0, .slice none 0 0, .int .i64 0, .int .i64 0] 43))
 have u1 : Upd Non w W1 := by rw [← HW1.out]; exact Upd.refl.alloc _
 have b1 : Blk W1 w.heap.size 43 z14 := by rw [← HW1.out]; exact Blk.new _ _ _
 have s1 : W1.heap.size = w.heap.size + 1 := by rw [← HW1.out]; simp
 obtain ⟨W2, HW2⟩ := nm (W1.alloc (.cells #[.string ⟨#[]⟩, .int .i64 0, .bool false] 62))
 have u2 : Upd Non W1 W2 := by rw [← HW2.out]; exact Upd.refl.alloc _
 have b2 : Blk W2 (w.heap.size + 1) 62 z3 := by rw [← HW2.out, ← s1]; exact Blk.new _ _ _
 have s2 : W2.heap.size = w.heap.size + 2 := by rw [← HW2.out]; simp [s1]
 have b1 := b1.upd u2 (fun f => f);have U2 := u1.then_non u2;have e1 := HW1.out;have e2 := HW2.out;have HS2 : Hid (LocP (P2 w.heap.size) w W2 p A c L x x) := (LocP.start h).turn U2 (fun _ _ f => f.elim) (fun k q => .inr (by rcases q with q | q <;> omega));have CI := Lib.hid (rIs_c HS2.out.rd hiL [97, 120, 105, 111, 109]);rw [hL.tk hx.1] at CI;have HX := Lib.hid hx;have HB1 := Lib.hid b1
 have HB2 := Lib.hid b2;have hpw : p < w.heap.size := h.blk.lt;obtain ⟨z, Hz⟩ := nm (x.why == 0 && decide (tkF T x.i = some [97, 120, 105, 111, 109]));rw [Hz.out] at CI;clear h b1 b2 u1 u2 U2 HW1 HW2 hx;go_enter Tryz.func29, Tryz.ntmps29
 go_wp2_with fail
 refine CI.out.mono ?_;rintro e w3 ⟨rfl, hu3⟩;have HS3 := Lib.hid (HS2.out.non hu3);have HB3 := Lib.hid (HB1.out.upd hu3 (fun f => f));have HK3 := Lib.hid (HB2.out.upd hu3 (fun f => f));have s3 := hu3.size;clear CI HS2 HB1 HB2 hu3 e1 e2
 cases z with
 | true =>
  have hz := Hz.out;simp only [Bool.and_eq_true, beq_iff_eq, decide_eq_true_eq] at hz;have H0 : Hid (x.why = 0) := hz.1;have HTK : Hid (tkF T x.i = some [97, 120, 105, 111, 109]) := hz.2;have hiT := tkF_lt hz.2;obtain ⟨c0, c1, c2, c3, c4, c5, c6⟩ := HS3.out.rd.cells;have cf := HS3.out.rd.blk.frozen
  have hlt5 : x.i < 100000 := by omega
  obtain ⟨i, Hi⟩ := nm x.i;rw [Hi.out] at c1 hlt5;obtain ⟨W4, HW4⟩ := nm (w3.setCell ⟨p, 1, none⟩ (.int .i64 ((i : Int) + 1)));have e4 := HW4.out
  have u4 : Upd (· = p) w3 W4 := by rw [← e4]; exact updCell _ _ _ _
  have h4 : RdS W4 p A c L { x with i := x.i + 1 } := by
   have := HS3.out.rd.setI (x.i + 1);rw [Hi.out] at this ⊢;rw [← e4]; exact this
  have HS4 : Hid (LocP (P2 w.heap.size) w W4 p A c L x { x with i := x.i + 1 }) := HS3.out.call h4 (fun _ q => .inl q) (u4.mono (fun _ _ e => .inl e));have HB4 := Lib.hid (HB3.out.upd u4 (by omega));have HK4 := Lib.hid (HK3.out.upd u4 (by omega));have HG4 : Hid (Good T { x with i := x.i + 1 }) := ⟨hiT, fun _ => by have := HX.out.2 hz.1; exact ⟨Nat.le_succ_of_le this.1, Nat.le_succ_of_le this.2⟩⟩
  have CW := Lib.hid (rWordA_c hL HS4.out.rd HG4.out HB4.out hpw);have hs4 := u4.size;clear hz c0 c2 c3 c4 c5 c6 h4 u4
  go_wp2_with fail
  refine CW.out.mono ?_;rintro e w5 hw5;have HW5 := Lib.hid hw5;clear hw5 CW c1 cf e4;obtain ⟨_, y, ts, tp, ev, htt, hb5, hy5, hg5, _, ho5, hu5, hr5⟩ := HW5.out;subst ev;have HS5 : Hid (LocP (P2 w.heap.size) w w5 p A c L x y) := HS4.out.callP hy5 ho5 (hu5.mono (fun _ _ q => q.imp_right .inl));have HB5 := Lib.hid hb5
  have HK5 := Lib.hid (HK4.out.upd hu5 (fun q => by
   rcases q with q | q
   ·
    exact (HS4.out.pr _ (.inr rfl)).2.2 q
   ·
    omega))
  have HG5 := Lib.hid hg5;have HR5 := Lib.hid (any_res hr5 (fun q => (htt q).1))
  have HTP : Hid (y.why = 0 → tp = offF T fin (x.i + 1)) := fun q => by rw [(htt q).2]; exact hL.pos hiT
  have hs5 := hu5.size
  have hyl : y.i < L.length := by have := hL.lt; have := hg5.1; omega
  obtain ⟨W6, HW6⟩ := nm (w5.alloc (.cells #[.string (kstr ts), .int .i64 tp, .bool false] 62));have e6 := HW6.out
  have u6 : Upd Non w5 W6 := by rw [← e6]; exact Upd.refl.alloc _
  have b6 : Blk W6 w5.heap.size 62 #[.string (kstr ts), .int .i64 tp, .bool false] := by rw [← e6]; exact Blk.new _ _ _
  have s6 : W6.heap.size = w5.heap.size + 1 := by rw [← e6]; simp
  clear hb5 hy5 hg5 ho5 hu5 hr5 htt HW5 HB4 HK4 HG4 HS4 HB3 HK3;unfold tokVal;clear e6
  go_upto_region 5 with fail
  rw [HW6.out];have HS6 := Lib.hid (HS5.out.non u6);have HB6 := Lib.hid (HB5.out.upd u6 (fun f => f));have HK6 := Lib.hid (HK5.out.upd u6 (fun f => f));have CE := Lib.hid (rExpect_c HS6.out.rd hyl hLl [59]);have HT6 := Lib.hid b6;clear HW6 b6 u6 HS5 HB5 HK5
  go_wp2_with fail
  refine CE.out.mono ?_;rintro e w7 ⟨rfl, hy7, hu7⟩
  have HS7 : Hid (LocP (P2 w.heap.size) w w7 p A c L x (y.exp L [59])) := HS6.out.call hy7 (fun _ hk => .inl ((exp_own _ _).1 hk)) (hu7.mono (fun _ _ e => .inl e))
  have HLT : Hid (∀ k, St.own (y.exp L [59]) p k → k < w7.heap.size) := fun k q => hy7.lt q
  have HB7 := Lib.hid (HB6.out.upd hu7 (by omega));have HK7 := Lib.hid (HK6.out.upd hu7 (by omega));have b7 := HT6.out.upd hu7 (by omega);have hs7 := hu7.size;have v0 := b7.cell 0;have HT7 := Lib.hid b7;have CX := Lib.hid (HAX.out ⟨x.i, HTK.out⟩ ts w7);clear b7 hy7 hu7 CE HS6 HB6 HK6 HT6
  go_wp2_with fail
  refine CX.out.mono ?_;rintro e w8 ⟨rl, a, b, rfl, hk8, hu8, ha1, ha2⟩;have HS8 := Lib.hid (HS7.out.non hu8);have HB8 := Lib.hid (HB7.out.upd hu8 (fun f => f));have HK8 := Lib.hid (HK7.out.upd hu8 (fun f => f));have HT8 := Lib.hid (HT7.out.upd hu8 (fun f => f));have HRK := Lib.hid hk8;have HAB : Hid ((b = true → ax ts = some rl) ∧ (b = false → ax ts = none)) := ⟨ha1, ha2⟩;have hs8 := hu8.size
  obtain ⟨W9, HW9⟩ := nm (w8.alloc (.cells (rlCells rl a) 43))
  have u9 : Upd Non w8 W9 := by rw [← HW9.out]; exact Upd.refl.alloc _
  have b9 : Blk W9 w8.heap.size 43 (rlCells rl a) := by rw [← HW9.out]; exact Blk.new _ _ _
  have s9 : W9.heap.size = w8.heap.size + 1 := by rw [← HW9.out]; simp
  clear CX v0 hk8 hu8 ha1 ha2 HS7 HB7 HK7 HT7;unfold rlv rlCells;unfold rlCells at HW9
  go_upto_region 7 with fail
  rw [show w8.alloc _ = W9 from HW9.out];obtain ⟨wD, HwD⟩ := nm W9.drew
  have uD : Upd Non W9 wD := by rw [← HwD.out]; exact Upd.refl.drew
  have HS := Lib.hid ((HS8.out.non u9).non uD);have HB := Lib.hid ((HB8.out.upd u9 (fun f => f)).upd uD (fun f => f));have HK := Lib.hid ((HK8.out.upd u9 (fun f => f)).upd uD (fun f => f));have HT := Lib.hid ((HT8.out.upd u9 (fun f => f)).upd uD (fun f => f));have HR := Lib.hid (b9.upd uD (fun f => f));have HRK := Lib.hid ((HRK.out.upd u9 (fun _ _ _ f => f)).upd uD (fun _ _ _ f => f))
  refine wp_region_held_drew (S := fun w' => w'.cell? ⟨w8.heap.size, 0, none⟩ = some (.string rl.name) ∧ w'.cell? ⟨w8.heap.size, 1, none⟩ = some (.int .i64 rl.l.v) ∧ w'.cell? ⟨w8.heap.size, 2, none⟩ = some (.int .i64 rl.l.op) ∧ w'.cell? ⟨w8.heap.size, 3, none⟩ = some (.int .i64 rl.l.imm) ∧ w'.cell? ⟨w8.heap.size, 4, none⟩ = some (.int .i64 rl.l.iv) ∧ w'.cell? ⟨w8.heap.size, 5, none⟩ = some (.slice a.la rl.l.kids.length a.lc) ∧ w'.cell? ⟨w8.heap.size, 6, none⟩ = some (.int .i64 rl.r.v) ∧ w'.cell? ⟨w8.heap.size, 7, none⟩ = some (.int .i64 rl.r.op) ∧ w'.cell? ⟨w8.heap.size, 8, none⟩ = some (.int .i64 rl.r.imm) ∧ w'.cell? ⟨w8.heap.size, 9, none⟩ = some (.int .i64 rl.r.iv) ∧ w'.cell? ⟨w8.heap.size, 10, none⟩ = some (.slice a.ra rl.r.kids.length a.rc) ∧ w'.cell? ⟨w8.heap.size, 11, none⟩ = some (.slice a.ca rl.conds.length a.cc) ∧ w'.cell? ⟨w8.heap.size, 12, none⟩ = some (.int .i64 rl.vars) ∧ w'.cell? ⟨w8.heap.size, 13, none⟩ = some (.int .i64 rl.imms) ∧ w'.cell? ⟨w5.heap.size, 0, none⟩ = some (.string (kstr ts)) ∧ w'.cell? ⟨w5.heap.size, 1, none⟩ = some (.int .i64 (tp : Nat)) ∧ w'.cell? ⟨w5.heap.size, 2, none⟩ = some (.bool false)) (by kernel_rfl) (by rw [HwD.out]; exact rt_cells HR.out HT.out) (fun hHeld => ?_)
  rw [HwD.out] at hHeld ⊢;clear b9 u9 HS8 HB8 HK8 HT8 HW9;refine wpT 0 ?_
  try simp only [put_y, put_z]
  refine wpT 1 ?_
  try simp only [put_y, put_z]
  refine wpT 2 ?_
  try simp only [put_y, put_z]
  have b0 := HB.out;unfold z14 at b0;have z0 := b0.cell 0;have z1 := b0.cell 1;have z2 := b0.cell 2;have z3 := b0.cell 3;have z4 := b0.cell 4;have z5 := b0.cell 5;have z6 := b0.cell 6;have z7 := b0.cell 7;have z8 := b0.cell 8;have z9 := b0.cell 9;have z10 := b0.cell 10;have z11 := b0.cell 11;have z12 := b0.cell 12;have z13 := b0.cell 13;have zf := b0.frozen
  refine wpAnyH_ready (rs := [3]) (by kernel_rfl) (by simp) ?_;refine AllReadyH.cons rfl (fun K hK => ?_) AllReadyH.nil;go_simp;rw [set14_eq]
  obtain ⟨W10, HW10⟩ := nm (set14 wD w.heap.size (.string rl.name) (.int .i64 rl.l.v) (.int .i64 rl.l.op) (.int .i64 rl.l.imm) (.int .i64 rl.l.iv) (.slice a.la rl.l.kids.length a.lc) (.int .i64 rl.r.v) (.int .i64 rl.r.op) (.int .i64 rl.r.imm) (.int .i64 rl.r.iv) (.slice a.ra rl.r.kids.length a.rc) (.slice a.ca rl.conds.length a.cc) (.int .i64 rl.vars) (.int .i64 rl.imms))
  rw [HW10.out]
  have u10 : Upd (· = w.heap.size) wD W10 := by rw [← HW10.out]; exact set14_upd _ _ _ _ _ _ _ _ _ _ _ _ _ _ _ _
  have hb10 : Blk W10 w.heap.size 43 (rlCells rl a) := by rw [← HW10.out]; exact set14_blk b0 _ _ _ _ _ _ _ _ _ _ _ _ _ _
  have HS10 := Lib.hid (HS.out.turn (P' := P2 w.heap.size) u10 (fun _ _ e => .inl e) (fun _ q => .inl q));have HK10 := Lib.hid (HK.out.upd u10 (by omega));have HT10 := Lib.hid (HT.out.upd u10 (by omega));have HR10 := Lib.hid (HR.out.upd u10 (by omega));have HRK10 := Lib.hid (HRK.out.upd u10 (fun k _ q e => by omega));have HB10 := Lib.hid hb10;refine hK.out _ _ ?_ (fun hHeld => ?_)
  ·
   exact rt_cells HR10.out HT10.out
  clear hK K
  try simp only [put_y, put_z]
  clear b0 zf z0 z1 z2 z3 z4 z5 z6 z7 z8 z9 z10 z11 z12 z13 hb10 HW10;have b0 := HK10.out;unfold z3 at b0;have y0 := b0.cell 0;have y1 := b0.cell 1;have y2 := b0.cell 2;have yf := b0.frozen;refine wpAnyH_ready (rs := [4]) (by kernel_rfl) (by simp) ?_;refine AllReadyH.cons rfl (fun K hK => ?_) AllReadyH.nil;go_simp;rw [set3_eq]
  obtain ⟨W11, HW11⟩ := nm (set3 W10 (w.heap.size + 1) (.string (kstr ts)) (.int .i64 (tp : Nat)) (.bool false));rw [HW11.out]
  have u11 : Upd (· = w.heap.size + 1) W10 W11 := by rw [← HW11.out]; exact set3_upd _ _ _ _ _
  have hb11 : Blk W11 (w.heap.size + 1) 62 #[.string (kstr ts), .int .i64 tp, .bool false] := by rw [← HW11.out]; exact set3_blk b0 _ _ _
  have HS11 := Lib.hid (HS10.out.turn (P' := P2 w.heap.size) u11 (fun _ _ e => .inr e) (fun _ q => .inl q));have HB11 := Lib.hid (HB10.out.upd u11 (by omega));have HT11 := Lib.hid (HT10.out.upd u11 (by omega));have HR11 := Lib.hid (HR10.out.upd u11 (by omega));have HRK11 := Lib.hid (HRK10.out.upd u11 (fun k _ q e => by omega));have HK11 := Lib.hid hb11;refine hK.out _ _ ?_ (fun hHeld => ?_)
  ·
   exact rt_cells HR11.out HT11.out
  clear hK K
  try simp only [put_y, put_z]
  clear b0 yf y0 y1 y2 hb11 HW11;refine wpAnyH_ready (rs := [5]) (by kernel_rfl) (by simp) ?_;refine AllReadyH.cons rfl (fun K hK => ?_) AllReadyH.nil;go_simp;refine hK.out _ _ ?_ (fun hHeld => ?_)
  ·
   exact rt_cells HR11.out HT11.out
  clear hK K
  try simp only [put_y, put_z]
  refine wpAnyH_done (by kernel_rfl) ?_ _
  go_wp2_with fail
  refine bodyPost_ret (results_cell_cell_tmp rfl _ _ w.heap.size 43 _ (0, 0) _ (w.heap.size + 1) 62 _ (0, 0) _ rfl HB11.out Tryz.underlying43 rfl (by kernel_rfl) rfl HK11.out Tryz.underlying62 rfl (by kernel_rfl)) rfl ?_
  rw [← Hr.out]
  exact ⟨rl, a, ts, tp, b, y.exp L [59], rfl, HRK11.out.mono (fun k _ q => ⟨by omega, fun r => by have := HLT.out k r; omega⟩), HS11.out.rd, exp_good hL HG5.out, HS11.out.own, HS11.out.upd, item_ax hL H0.out HTK.out HR5.out HG5.out HTP.out HAB.out⟩
 | false =>
  have CE := Lib.hid (rExpect_c HS3.out.rd hiL hLl [114, 117, 108, 101])
  go_wp2_with fail
  refine CE.out.mono ?_;rintro e w4 ⟨rfl, hy4, hu4⟩;have hg0 : Good T (x.exp L [114, 117, 108, 101]) := exp_good hL HX.out
  have ho0 : ∀ k, (x.exp L [114, 117, 108, 101]).own p k → x.own p k := fun k hk => (exp_own _ _).1 hk
  obtain ⟨y0, Hy0⟩ := nm (x.exp L [114, 117, 108, 101]);rw [Hy0.out] at hy4 hg0 ho0;have HS4 : Hid (LocP (P2 w.heap.size) w w4 p A c L x y0) := HS3.out.call hy4 (fun k hk => .inl (ho0 k hk)) (hu4.mono (fun _ _ e => .inl e));have HB4 := Lib.hid (HB3.out.upd hu4 (by omega));have HK4 := Lib.hid (HK3.out.upd hu4 (by omega));have HG0 := Lib.hid hg0;have hs4 := hu4.size
  obtain ⟨c0, c1, c2, c3, c4, c5, c6⟩ := HS4.out.rd.cells;have cf := HS4.out.rd.blk.frozen;have hcl := HS4.out.rd.clear;obtain ⟨W5, HW5⟩ := nm ((w4.setCell ⟨p, 4, none⟩ (.slice none 0 0)).setCell ⟨p, 5, none⟩ (.slice none 0 0));rw [HW5.out] at hcl;have e5 := HW5.out
  have HS5 : Hid (LocP (P2 w.heap.size) w W5 p A c L x y0.clear) := HS4.out.call hcl.1 (fun k hk => .inl (.inl ((clear_own _ _ _).1 hk))) (hcl.2.mono (fun _ _ e => .inl e))
  have HB5 := Lib.hid (HB4.out.upd hcl.2 (by omega));have HK5 := Lib.hid (HK4.out.upd hcl.2 (by omega));have hs5 := hcl.2.size;have HG5 : Hid (Good T y0.clear) := ⟨hg0.1, fun _ => ⟨Nat.zero_le _, Nat.zero_le _⟩⟩;have CW := Lib.hid (rWordA_c hL HS5.out.rd HG5.out HB5.out hpw);clear CE hy4 hu4 hg0 ho0 c0 c1 c2 c3 c6 hcl HS3 HB3 HK3
  go_wp2_with fail
  refine CW.out.mono ?_;rintro e w6 hw6;have HW6 := Lib.hid hw6;clear hw6 CW c4 c5 cf e5 HS4 HB4 HK4;obtain ⟨_, y1, ts, tp, ev, htt, hb6, hy6, hg6, _, ho6, hu6, hr6⟩ := HW6.out;subst ev;have HS6 : Hid (LocP (P2 w.heap.size) w w6 p A c L x y1) := HS5.out.callP hy6 ho6 (hu6.mono (fun _ _ q => q.imp_right .inl));have HB6 := Lib.hid hb6
  have HK6 := Lib.hid (HK5.out.upd hu6 (fun q => by
   rcases q with q | q
   ·
    exact (HS5.out.pr _ (.inr rfl)).2.2 q
   ·
    omega))
  have HG1 := Lib.hid hg6;have hR1 := any_res hr6 (fun q => (htt q).1);have HR1 : Hid (ResS y0 y1 (anyF T fin { psOf y0 with vs := [], ms := [] }) (fun v => v = ts)) := hR1
  have HTP : Hid (y1.why = 0 → tp = offF T fin y0.i) := fun q => by rw [(htt q).2]; exact hL.pos HG5.out.1
  have hs6 := hu6.size
  have hyl : y1.i < L.length := by have := hL.lt; have := hg6.1; omega
  obtain ⟨W7, HW7⟩ := nm (w6.alloc (.cells #[.string (kstr ts), .int .i64 tp, .bool false] 62))
  have u7 : Upd Non w6 W7 := by rw [← HW7.out]; exact Upd.refl.alloc _
  have b7 : Blk W7 w6.heap.size 62 #[.string (kstr ts), .int .i64 tp, .bool false] := by rw [← HW7.out]; exact Blk.new _ _ _
  have s7 : W7.heap.size = w6.heap.size + 1 := by rw [← HW7.out]; simp
  have HS7 : Hid (LocP (fun k => P2 w.heap.size k ∨ k = w6.heap.size) w W7 p A c L x y1) := HS6.out.turn u7 (fun _ _ f => f.elim) (fun k q => q.imp_right (fun q => by omega))
  have HB7 := Lib.hid (HB6.out.upd u7 (fun f => f));have HK7 := Lib.hid (HK6.out.upd u7 (fun f => f));have HT7 := Lib.hid b7;have CE := Lib.hid (rExpect_c HS7.out.rd hyl hLl [58]);clear hb6 hy6 hg6 ho6 hu6 hr6 hR1 htt b7 u7 HW6 HB5 HK5 HS5 HS6 HB6 HK6;unfold tokVal
  go_upto_region 11 with fail
  rw [HW7.out]
  go_wp2_with fail
  refine CE.out.mono ?_;rintro e w8 ⟨rfl, hy8, hu8⟩
  have HS8 : Hid (LocP (fun k => P2 w.heap.size k ∨ k = w6.heap.size) w w8 p A c L x (y1.exp L [58])) := HS7.out.call hy8 (fun _ hk => .inl ((exp_own _ _).1 hk)) (hu8.mono (fun _ _ e => .inl e))
  have HB8 := Lib.hid (HB7.out.upd hu8 (by omega));have HK8 := Lib.hid (HK7.out.upd hu8 (by omega));have b8 := HT7.out.upd hu8 (by omega);have hs8 := hu8.size;have v0 := b8.cell 0;have HT8 := Lib.hid b8
  obtain ⟨W9, HW9⟩ := nm (w8.alloc (.cells #[.string (kstr ts), .int .i64 0, .int .i64 0, .int .i64 0, .int .i64 0, .slice none 0 0, .int .i64 0, .int .i64 0, .int .i64 0, .int .i64 0, .slice none 0 0, .slice none 0 0, .int .i64 0, .int .i64 0] 43))
  have u9 : Upd Non w8 W9 := by rw [← HW9.out]; exact Upd.refl.alloc _
  have b9 : Blk W9 w8.heap.size 43 (rlCells ⟨kstr ts, .mk 0 0 0 0 [], .mk 0 0 0 0 [], [], 0, 0⟩ ⟨none, 0, none, 0, none, 0⟩) := by rw [← HW9.out]; exact Blk.new _ _ _
  have s9 : W9.heap.size = w8.heap.size + 1 := by rw [← HW9.out]; simp
  have HS9 : Hid (ItS w W9 p A c L x (y1.exp L [58]) w6.heap.size w8.heap.size ts tp ⟨kstr ts, .mk 0 0 0 0 [], .mk 0 0 0 0 [], [], 0, 0⟩ ⟨none, 0, none, 0, none, 0⟩) := by
   refine ⟨HS8.out.turn u9 (fun _ _ f => f.elim) (fun k q => ?_), HB8.out.upd u9 (fun f => f), HK8.out.upd u9 (fun f => f), HT8.out.upd u9 (fun f => f), b9, CdO.none_, by omega, by omega, ItS.leaf, ItS.leaf⟩
   rcases q with q | q | q | q | q
   ·
    exact .inl (.inl (.inl q))
   ·
    exact .inl (.inl (.inr q))
   ·
    exact .inl (.inr q)
   ·
    exact .inr (by omega)
   ·
    exact (At.none_ q).elim
  have HG2 : Hid (Good T (y1.exp L [58])) := exp_good hL HG1.out;clear CE b8 hy8 hu8 b9 u9 HS7 HB7 HK7 HT7 HS8 HB8 HK8 HT8
  go_upto_region 13 with fail
  rw [HW9.out];obtain ⟨c0, c1, c2, c3, c4, c5, c6⟩ := HS9.out.loc.rd.cells;have cf := HS9.out.loc.rd.blk.frozen;obtain ⟨W10, HW10⟩ := nm (W9.setCell ⟨p, 6, none⟩ (.bool true));have e10 := HW10.out
  have HS10 : Hid (ItS w W10 p A c L x { (y1.exp L [58]) with left := true } w6.heap.size w8.heap.size ts tp ⟨kstr ts, .mk 0 0 0 0 [], .mk 0 0 0 0 [], [], 0, 0⟩ ⟨none, 0, none, 0, none, 0⟩) := by rw [← e10]; exact HS9.out.setLeft true
  have HG3 : Hid (Good T { (y1.exp L [58]) with left := true }) := HG2.out;have CT := Lib.hid (rTerm_any hL true T.length HS10.out.loc.rd HG3.out rfl (fun _ => by omega));clear v0 HW9 c0 c1 c2 c3 c4 c5 HS9 HW7
  go_wp2_with fail
  refine CT.out.mono ?_;rintro e w11 ⟨q1, KA1, kc1, y3, rfl, hq, hy, hg, _, ho, hu, hres⟩;have HS11 := Lib.hid (HS10.out.call hy ho hu);have HQ1 := Lib.hid (HS10.out.new hq);have HG4 := Lib.hid hg
  have HR3 : Hid (ResS (y1.exp L [58]) y3 (termF T fin true (T.length + 1) (psOf (y1.exp L [58]))) (fun v => v = q1)) := by
   have h2 : ResS { (y1.exp L [58]) with left := true } y3 (termF T fin true (T.length + 1) (psOf { (y1.exp L [58]) with left := true })) (fun v => v = q1) := ResS.mono hres (fun _ q => q.1)
   exact h2
  have hs11 := hu.size;have b11 := HS11.out.rl;unfold rlCells at b11;have k1 := b11.cell 1;have k2 := b11.cell 2;have k3 := b11.cell 3;have k4 := b11.cell 4;have k5 := b11.cell 5;have kf := b11.frozen;clear c6 cf e10 CT hq hy hg ho hu hres HS10;unfold pv
  go_upto_region 15 with fail
  rw [setLf_eq];obtain ⟨W12, HW12⟩ := nm (setLf w11 w8.heap.size (.int .i64 q1.v) (.int .i64 q1.op) (.int .i64 q1.imm) (.int .i64 q1.iv) (.slice KA1 q1.kids.length kc1));rw [HW12.out]
  have u12 : Upd (· = w8.heap.size) w11 W12 := by rw [← HW12.out]; exact setLf_upd _ _ _ _ _ _ _
  have b12 : Blk W12 w8.heap.size 43 (rlCells ⟨kstr ts, q1, .mk 0 0 0 0 [], [], 0, 0⟩ ⟨KA1, kc1, none, 0, none, 0⟩) := by rw [← HW12.out]; exact setLf_blk b11 _ _ _ _ _
  have HS12 := Lib.hid (HS11.out.rule u12 b12 rfl rfl rfl HQ1.out HS11.out.kr);clear b11 k1 k2 k3 k4 k5 kf u12 b12 HW12 HS11 HQ1;obtain ⟨c0, c1, c2, c3, c4, c5, c6⟩ := HS12.out.loc.rd.cells;have cf := HS12.out.loc.rd.blk.frozen;obtain ⟨W13, HW13⟩ := nm (W12.setCell ⟨p, 6, none⟩ (.bool false));have e13 := HW13.out
  have HS13 : Hid (ItS w W13 p A c L x { y3 with left := false } w6.heap.size w8.heap.size ts tp ⟨kstr ts, q1, .mk 0 0 0 0 [], [], 0, 0⟩ ⟨KA1, kc1, none, 0, none, 0⟩) := by rw [← e13]; exact HS12.out.setLeft false
  have HG5 : Hid (Good T { y3 with left := false }) := HG4.out
  have hyl3 : ({ y3 with left := false } : St).i < L.length := by have := hL.lt; have := HG4.out.1; show y3.i < _; omega
  have CE := Lib.hid (rExpect_c HS13.out.loc.rd hyl3 hLl [61, 62]);clear c0 c1 c2 c3 c4 c5 HS12 hyl3
  go_wp2_with fail
  refine CE.out.mono ?_;rintro e w14 ⟨rfl, hy14, hu14⟩;have HS14 := Lib.hid (HS13.out.exp hy14 hu14);have hg14 : Good T (({ y3 with left := false } : St).exp L [61, 62]) := exp_good hL HG5.out;rw [exp_left_set] at HS14 hg14;have HG6 := Lib.hid hg14;have CT := Lib.hid (rTerm_any hL false T.length HS14.out.loc.rd HG6.out rfl (fun _ => by omega));clear CE c6 cf e13 hy14 hu14 hg14 HS13
  go_wp2_with fail
  refine CT.out.mono ?_;rintro e w15 ⟨q2, KA2, kc2, y5, rfl, hq, hy, hg, hl5, ho, hu, hres⟩;have HS15 := Lib.hid (HS14.out.call hy ho hu);have HQ2 := Lib.hid (HS14.out.new hq);have HG7 := Lib.hid hg;have HL7 : Hid (y5.left = false) := hl5
  have HR5 : Hid (ResS (y3.exp L [61, 62]) y5 (termF T fin false (T.length + 1) (psOf (y3.exp L [61, 62]))) (fun v => v = q2)) := by
   have h2 : ResS { (y3.exp L [61, 62]) with left := false } y5 (termF T fin false (T.length + 1) (psOf { (y3.exp L [61, 62]) with left := false })) (fun v => v = q2) := ResS.mono hres (fun _ q => q.1)
   exact h2
  have b15 := HS15.out.rl;unfold rlCells at b15;have k6 := b15.cell 6;have k7 := b15.cell 7;have k8 := b15.cell 8;have k9 := b15.cell 9;have k10 := b15.cell 10;have kf := b15.frozen;clear CT hq hy hg ho hu hres hl5 HS14;unfold pv
  go_upto_region 18 with fail
  rw [setRt_eq];obtain ⟨W16, HW16⟩ := nm (setRt w15 w8.heap.size (.int .i64 q2.v) (.int .i64 q2.op) (.int .i64 q2.imm) (.int .i64 q2.iv) (.slice KA2 q2.kids.length kc2));rw [HW16.out]
  have u16 : Upd (· = w8.heap.size) w15 W16 := by rw [← HW16.out]; exact setRt_upd _ _ _ _ _ _ _
  have b16 : Blk W16 w8.heap.size 43 (rlCells ⟨kstr ts, q1, q2, [], 0, 0⟩ ⟨KA1, kc1, KA2, kc2, none, 0⟩) := by rw [← HW16.out]; exact setRt_blk b15 _ _ _ _ _
  have HS16 := Lib.hid (HS15.out.rule u16 b16 rfl rfl rfl HS15.out.kl HQ2.out)
  have hy5l : y5.i < L.length := by have := hL.lt; have := HG7.out.1; omega
  have CI := Lib.hid (rIs_c HS16.out.loc.rd hy5l [105, 102]);rw [hL.tk HG7.out.1] at CI;obtain ⟨z, Hz2⟩ := nm (y5.why == 0 && decide (tkF T y5.i = some [105, 102]));rw [Hz2.out] at CI;clear b15 k6 k7 k8 k9 k10 kf u16 b16 HW16 HS15 HQ2
  go_upto_if 65 with fail
  refine CI.out.mono ?_;rintro e w17 ⟨rfl, hu17⟩;have HS17 := Lib.hid (HS16.out.non hu17);clear CI hu17 HS16
  go_upto_if 65 with fail
  have hTl : T.length ≤ 100000 := by have := hL.lt; omega
  go_cut [] (fun wx => ∃ (CA : Option Addr) (cc : Nat) (cs : List Cd) (y6 : St), Hid (ItS w wx p A c L x y6 w6.heap.size w8.heap.size ts tp ⟨kstr ts, q1, q2, cs, 0, 0⟩ ⟨KA1, kc1, KA2, kc2, CA, cc⟩) ∧ Hid (Good T y6) ∧ Hid (ResS y5 y6 (ifF T fin (T.length + 1) (psOf y5)) (fun v => v = cs)))
  case first =>
   cases z with
   | false =>
    go_wp2_with fail
    go_meet
    case rel => exact ⟨none, 0, [], y5, HS17, HG7, ifF_none Hz2.out⟩
   | true =>
    have hz2 := Hz2.out;simp only [Bool.and_eq_true, beq_iff_eq, decide_eq_true_eq] at hz2;have H05 : Hid (y5.why = 0) := hz2.1;have HTK : Hid (tkF T y5.i = some [105, 102]) := hz2.2;have hiT := tkF_lt hz2.2;obtain ⟨c0, c1, c2, c3, c4, c5, c6⟩ := HS17.out.loc.rd.cells;have cf := HS17.out.loc.rd.blk.frozen;have hs18 := HS17.out.setI (y5.i + 1)
    have hg18 : Good T { y5 with i := y5.i + 1 } := ⟨hiT, fun _ => by have := HG7.out.2 hz2.1; exact ⟨Nat.le_succ_of_le this.1, Nat.le_succ_of_le this.2⟩⟩;obtain ⟨i, Hi⟩ := nm y5.i;rw [Hi.out] at c1 hiT hs18;rw [show (.int .i64 ((i + 1 : Nat) : Int) : Value) = .int .i64 ((i : Int) + 1) from rfl] at hs18;obtain ⟨W18, HW18⟩ := nm (w17.setCell ⟨p, 1, none⟩ (.int .i64 ((i : Int) + 1)))
    have e18 := HW18.out;rw [e18, ← Hi.out] at hs18;have HS18 := Lib.hid hs18;have HG := Lib.hid hg18;have HL : Hid (({ y5 with i := y5.i + 1 } : St).left = false) := HL7.out;clear hz2 c0 c2 c3 c4 c5 c6 hs18 hg18
    go_upto_region 20 with fail
    clear c1 cf e18 HW18
    obtain ⟨yy, CA, cc, cs, Hyy, Hcs, HS, HG, HL⟩ : ∃ (yy : St) (CA : Option Addr) (cc : Nat) (cs : List Cd), Hid (yy = { y5 with i := y5.i + 1 }) ∧ Hid (cs = []) ∧ Hid (ItS w W18 p A c L x yy w6.heap.size w8.heap.size ts tp ⟨kstr ts, q1, q2, cs, 0, 0⟩ ⟨KA1, kc1, KA2, kc2, CA, cc⟩) ∧ Hid (Good T yy) ∧ Hid (yy.left = false) := ⟨_, none, 0, [], rfl, rfl, HS18, HG, HL⟩
    have hcl : cs.length ≤ 100000 := by rw [Hcs.out]; exact Nat.zero_le _
    clear HS18 HS17
    go_cut [] (fun wx => ∃ (A8 : Option Addr) (c8 : Nat) (cd : Cd) (y' : St), Hid (ItS w wx p A c L x y' w6.heap.size w8.heap.size ts tp ⟨kstr ts, q1, q2, cs ++ [cd], 0, 0⟩ ⟨KA1, kc1, KA2, kc2, A8, c8⟩) ∧ Hid (Good T y') ∧ Hid (y'.left = false) ∧ Hid (ResS yy y' (pcondF T fin (psOf yy)) (fun v => v = cd ∧ yy.i + 1 ≤ y'.i)))
    case first =>
     obtain ⟨wD, HwD⟩ := nm W18.drew
     have uD : Upd Non W18 wD := by rw [← HwD.out]; exact Upd.refl.drew
     have HS := Lib.hid (HS.out.non uD);refine wp_region_held_drew (S := fun _ => True) (by kernel_rfl) trivial (fun hHeld => ?_);rw [HwD.out];clear uD;refine wpT 0 ?_
     try simp only [put_y, put_z]
     refine wpT 2 ?_
     try simp only [put_y, put_z]
     refine wpAnyH_ready (rs := [1, 3]) (by kernel_rfl) (by simp) ?_;refine AllReadyH.cons rfl (fun K hK => ?_) (AllReadyH.cons rfl (fun K hK => ?_) AllReadyH.nil)
     ·
      skip;have hbk := HS.out.rl;unfold rlCells at hbk;have k11 := hbk.cell 11;go_simp;refine hK.out _ _ ?_ (fun hHeld => ?_)
      ·
       exact trivial
      clear hK K
      try simp only [put_y, put_z]
      clear hbk k11;refine wpAnyH_ready (rs := [3]) (by kernel_rfl) (by simp) ?_;refine AllReadyH.cons rfl (fun K hK => ?_) AllReadyH.nil;go_simp;refine (rCond_c hL HS.out.loc.rd HG.out HL.out).mono ?_;rintro e wc6 ⟨cd, y', rfl, hy', hg', hl', ho', hu', hres⟩;have HS := Lib.hid (HS.out.call hy' ho' hu');have HG2 := Lib.hid hg';have HL2 : Hid (y'.left = false) := hl'.trans HL.out
      have HRS := Lib.hid hres;clear hy' hg' ho' hu' hres hl'
      go_wp2_with fail
      refine hK.out _ _ ?_ (fun hHeld => ?_)
      ·
       exact trivial
      clear hK K
      try simp only [put_y, put_z]
      refine wpAnyH_ready (rs := [4]) (by kernel_rfl) (by simp) ?_;refine AllReadyH.cons rfl (fun K hK => ?_) AllReadyH.nil;go_simp;have HS := Lib.hid (HS.out.non (Upd.refl.alloc (.cells #[.int .i64 cd.kind, .int .i64 cd.a, .int .i64 cd.b, .int .i64 cd.n] 69) (S := Non)));refine hK.out _ _ ?_ (fun hHeld => ?_)
      ·
       exact trivial
      clear hK K
      try simp only [put_y, put_z]
      refine wpAnyH_ready (rs := [5]) (by kernel_rfl) (by simp) ?_;refine AllReadyH.cons rfl (fun K hK => ?_) AllReadyH.nil;have hko := HS.out.cds;unfold CdO at hko;refine step_app rfl rfl T_conds rfl hko rfl (Sl.new _ _ _) rfl (by simp [Value.oneCell']) (by simp only [maxLen]; omega) (by omega) ?_;intro A8 c8 w8' ho8 hu8 hat8;have hcd := CdO.of rfl ho8
      have hbk := HS.out.rl.upd hu8 HS.out.ncd.2.2.2;unfold rlCells at hbk;have k11 := hbk.cell 11;have kf := hbk.frozen;clear hko ho8;refine hK.out _ _ ?_ (fun hHeld => ?_)
      ·
       exact trivial
      clear hK K
      try simp only [put_y, put_z]
      refine wpT 6 ?_
      try simp only [put_y, put_z]
      refine wpAnyH_ready (rs := [7]) (by kernel_rfl) (by simp) ?_;refine AllReadyH.cons rfl (fun K hK => ?_) AllReadyH.nil;go_simp;have hb9 := hbk.set_ 11 (.slice A8 (cs ++ [cd]).length c8);obtain ⟨w9, Hw9⟩ := nm (w8'.setCell ⟨w8.heap.size, 11, none⟩ (.slice A8 (cs ++ [cd]).length c8));have e9 := Hw9.out;rw [e9] at hb9;rw [List.length_append, List.length_singleton] at e9;rw [e9]
      have u9 : Upd (· = w8.heap.size) w8' w9 := by rw [← Hw9.out]; exact updCell _ _ _ _
      have HS := Lib.hid (HS.out.app hu8 hcd hat8 u9 (by simpa [rlCells] using hb9));clear hbk k11 kf hcd hu8 hat8 hb9 u9 Hw9 e9;refine hK.out _ _ ?_ (fun hHeld => ?_)
      ·
       exact trivial
      clear hK K
      try simp only [put_y, put_z]
      refine wpAnyH_done (by kernel_rfl) ?_ _
      go_wp2_with fail
      go_meet
      case rel => exact ⟨A8, c8, cd, y', HS, HG2, HL2, HRS⟩
     ·
      skip;go_simp;refine (rCond_c hL HS.out.loc.rd HG.out HL.out).mono ?_;rintro e wc6 ⟨cd, y', rfl, hy', hg', hl', ho', hu', hres⟩;have HS := Lib.hid (HS.out.call hy' ho' hu');have HG2 := Lib.hid hg';have HL2 : Hid (y'.left = false) := hl'.trans HL.out;have HRS := Lib.hid hres;clear hy' hg' ho' hu' hres hl'
      go_wp2_with fail
      refine hK.out _ _ ?_ (fun hHeld => ?_)
      ·
       exact trivial
      clear hK K
      try simp only [put_y, put_z]
      have hbk := HS.out.rl;unfold rlCells at hbk;have k11 := hbk.cell 11
      refine wpAnyH_takeM (fun w' => w'.cell? ⟨w8.heap.size, 11, none⟩ = some (.slice CA cs.length cc)) (calm_cell _ _) [5, 6, 7] (i := 1) (v := ?_) rfl (by kernel_rfl) (by kernel_rfl) (by kernel_rfl) (by kernel_rfl) (fun _ _ _ h => h) (Or.inl ⟨by rfl, ?_⟩) (k11) (by assumption) ?_
      rotate_left
      ·
       intro w hSw; (try dsimp only at hSw); go_simp; try with_reducible rfl
      try simp only [put_y, put_z]
      clear hbk k11;refine wpAnyH_ready (rs := [4]) (by kernel_rfl) (by simp) ?_;refine AllReadyH.cons rfl (fun K hK => ?_) AllReadyH.nil;go_simp;have HS := Lib.hid (HS.out.non (Upd.refl.alloc (.cells #[.int .i64 cd.kind, .int .i64 cd.a, .int .i64 cd.b, .int .i64 cd.n] 69) (S := Non)));refine hK.out _ _ ?_ (fun hHeld => ?_)
      ·
       exact trivial
      clear hK K
      try simp only [put_y, put_z]
      refine wpAnyH_ready (rs := [5]) (by kernel_rfl) (by simp) ?_;refine AllReadyH.cons rfl (fun K hK => ?_) AllReadyH.nil;have hko := HS.out.cds;unfold CdO at hko;refine step_app rfl rfl T_conds rfl hko rfl (Sl.new _ _ _) rfl (by simp [Value.oneCell']) (by simp only [maxLen]; omega) (by omega) ?_;intro A8 c8 w8' ho8 hu8 hat8;have hcd := CdO.of rfl ho8
      have hbk := HS.out.rl.upd hu8 HS.out.ncd.2.2.2;unfold rlCells at hbk;have k11 := hbk.cell 11;have kf := hbk.frozen;clear hko ho8;refine hK.out _ _ ?_ (fun hHeld => ?_)
      ·
       exact trivial
      clear hK K
      try simp only [put_y, put_z]
      refine wpT 6 ?_
      try simp only [put_y, put_z]
      refine wpAnyH_ready (rs := [7]) (by kernel_rfl) (by simp) ?_;refine AllReadyH.cons rfl (fun K hK => ?_) AllReadyH.nil;go_simp;have hb9 := hbk.set_ 11 (.slice A8 (cs ++ [cd]).length c8);obtain ⟨w9, Hw9⟩ := nm (w8'.setCell ⟨w8.heap.size, 11, none⟩ (.slice A8 (cs ++ [cd]).length c8));have e9 := Hw9.out;rw [e9] at hb9;rw [List.length_append, List.length_singleton] at e9;rw [e9]
      have u9 : Upd (· = w8.heap.size) w8' w9 := by rw [← Hw9.out]; exact updCell _ _ _ _
      have HS := Lib.hid (HS.out.app hu8 hcd hat8 u9 (by simpa [rlCells] using hb9));clear hbk k11 kf hcd hu8 hat8 hb9 u9 Hw9 e9;refine hK.out _ _ ?_ (fun hHeld => ?_)
      ·
       exact trivial
      clear hK K
      try simp only [put_y, put_z]
      refine wpAnyH_done (by kernel_rfl) ?_ _
      go_wp2_with fail
      go_meet
      case rel => exact ⟨A8, c8, cd, y', HS, HG2, HL2, HRS⟩
    case rest =>
     obtain ⟨CB, cb, cd, y6, HS, HG, HL, HRS⟩ := hcut
     have HC : Hid (CdL T fin y5 y6 (cs ++ [cd]) (T.length + 1)) := by
      show CdL T fin y5 y6 (cs ++ [cd]) (T.length + 1);rw [Hcs.out];have h2 := HRS.out;rw [Hyy.out] at h2;exact CdL.first HTK.out H05.out h2
     have hcb : (cs ++ [cd]).length + (T.length + 1) ≤ T.length + 2 := by rw [Hcs.out]; simp; omega
     clear Hyy Hcs HRS hcl HTK H05
     go_wp2_with fail
     go_loopg [] (T.length + 1) (fun g wr => ∃ (fu : Nat) (CB : Option Addr) (cb : Nat) (cs : List Cd) (y : St), Hid (g = fu) ∧ Hid (ItS w wr p A c L x y w6.heap.size w8.heap.size ts tp ⟨kstr ts, q1, q2, cs, 0, 0⟩ ⟨KA1, kc1, KA2, kc2, CB, cb⟩) ∧ Hid (Good T y) ∧ Hid (y.left = false) ∧ Hid (CdL T fin y5 y cs fu) ∧ cs.length + fu ≤ T.length + 2)
     case atStart => exact ⟨_, CB, cb, cs ++ [cd], y6, rfl, HS, HG, HL, HC, hcb⟩
     case round =>
      clear HS HG HL HC hcb;obtain ⟨fu, CA, cc, cs, y, Hfu, HS, HG, HL, HC, hcb⟩ := hrel
      have hyl : y.i < L.length := by have := hL.lt; have := HG.out.1; omega
      have CI := Lib.hid (rIs_c HS.out.loc.rd hyl [44]);rw [hL.tk HG.out.1] at CI;obtain ⟨z, Hz3⟩ := nm (y.why == 0 && decide (tkF T y.i = some [44]));rw [Hz3.out] at CI
      go_wp2_with fail
      refine CI.out.mono ?_;rintro e wi ⟨rfl, hui⟩;have HSi := Lib.hid (HS.out.non hui);clear HS CI hui
      cases z with
      | false =>
       go_wp2_with fail
       go_meet
       case rel => exact ⟨CA, cc, cs, y, HSi, HG, CdL.done HC.out Hz3.out⟩
      | true =>
       have hz2 := Hz3.out;simp only [Bool.and_eq_true, beq_iff_eq, decide_eq_true_eq] at hz2;have H05 : Hid (y.why = 0) := hz2.1;have HTK : Hid (tkF T y.i = some [44]) := hz2.2;have hiT := tkF_lt hz2.2;obtain ⟨c0, c1, c2, c3, c4, c5, c6⟩ := HSi.out.loc.rd.cells;have cf := HSi.out.loc.rd.blk.frozen;have hs18 := HSi.out.setI (y.i + 1)
       have hg18 : Good T { y with i := y.i + 1 } := ⟨hiT, fun _ => by have := HG.out.2 hz2.1; exact ⟨Nat.le_succ_of_le this.1, Nat.le_succ_of_le this.2⟩⟩;have HIT := Lib.hid hiT;obtain ⟨i, Hi⟩ := nm y.i;rw [Hi.out] at c1 hiT hs18;rw [show (.int .i64 ((i + 1 : Nat) : Int) : Value) = .int .i64 ((i : Int) + 1) from rfl] at hs18
       obtain ⟨W18, HW18⟩ := nm (wi.setCell ⟨p, 1, none⟩ (.int .i64 ((i : Int) + 1)));have e18 := HW18.out;rw [e18, ← Hi.out] at hs18
       obtain ⟨yy, Hyy, HS, HG, HL⟩ : ∃ (yy : St), Hid (yy = { y with i := y.i + 1 }) ∧ Hid (ItS w W18 p A c L x yy w6.heap.size w8.heap.size ts tp ⟨kstr ts, q1, q2, cs, 0, 0⟩ ⟨KA1, kc1, KA2, kc2, CA, cc⟩) ∧ Hid (Good T yy) ∧ Hid (yy.left = false) := ⟨_, rfl, hs18, hg18, HL.out⟩
       have hcl : cs.length ≤ 100002 := by omega
       clear hz2 c0 c2 c3 c4 c5 c6 hs18 hg18 HSi
       go_upto_region 23 with fail
       clear c1 cf e18 HW18;obtain ⟨wD, HwD⟩ := nm W18.drew
       have uD : Upd Non W18 wD := by rw [← HwD.out]; exact Upd.refl.drew
       have HS := Lib.hid (HS.out.non uD);refine wp_region_held_drew (S := fun _ => True) (by kernel_rfl) trivial (fun hHeld => ?_);rw [HwD.out];clear uD;refine wpT 0 ?_
       try simp only [put_y, put_z]
       refine wpT 2 ?_
       try simp only [put_y, put_z]
       refine wpAnyH_ready (rs := [1, 3]) (by kernel_rfl) (by simp) ?_;refine AllReadyH.cons rfl (fun K hK => ?_) (AllReadyH.cons rfl (fun K hK => ?_) AllReadyH.nil)
       ·
        skip;have hbk := HS.out.rl;unfold rlCells at hbk;have k11 := hbk.cell 11;go_simp;refine hK.out _ _ ?_ (fun hHeld => ?_)
        ·
         exact trivial
        clear hK K
        try simp only [put_y, put_z]
        clear hbk k11;refine wpAnyH_ready (rs := [3]) (by kernel_rfl) (by simp) ?_;refine AllReadyH.cons rfl (fun K hK => ?_) AllReadyH.nil;go_simp;refine (rCond_c hL HS.out.loc.rd HG.out HL.out).mono ?_;rintro e wc6 ⟨cd, y', rfl, hy', hg', hl', ho', hu', hres⟩;have HS := Lib.hid (HS.out.call hy' ho' hu');have HG2 := Lib.hid hg';have HL2 : Hid (y'.left = false) := hl'.trans HL.out
        have HRS := Lib.hid hres;clear hy' hg' ho' hu' hres hl'
        go_wp2_with fail
        refine hK.out _ _ ?_ (fun hHeld => ?_)
        ·
         exact trivial
        clear hK K
        try simp only [put_y, put_z]
        refine wpAnyH_ready (rs := [4]) (by kernel_rfl) (by simp) ?_;refine AllReadyH.cons rfl (fun K hK => ?_) AllReadyH.nil;go_simp;have HS := Lib.hid (HS.out.non (Upd.refl.alloc (.cells #[.int .i64 cd.kind, .int .i64 cd.a, .int .i64 cd.b, .int .i64 cd.n] 69) (S := Non)));refine hK.out _ _ ?_ (fun hHeld => ?_)
        ·
         exact trivial
        clear hK K
        try simp only [put_y, put_z]
        refine wpAnyH_ready (rs := [5]) (by kernel_rfl) (by simp) ?_;refine AllReadyH.cons rfl (fun K hK => ?_) AllReadyH.nil;have hko := HS.out.cds;unfold CdO at hko;refine step_app rfl rfl T_conds rfl hko rfl (Sl.new _ _ _) rfl (by simp [Value.oneCell']) (by simp only [maxLen]; omega) (by omega) ?_;intro A8 c8 w8' ho8 hu8 hat8;have hcd := CdO.of rfl ho8
        have hbk := HS.out.rl.upd hu8 HS.out.ncd.2.2.2;unfold rlCells at hbk;have k11 := hbk.cell 11;have kf := hbk.frozen;clear hko ho8;refine hK.out _ _ ?_ (fun hHeld => ?_)
        ·
         exact trivial
        clear hK K
        try simp only [put_y, put_z]
        refine wpT 6 ?_
        try simp only [put_y, put_z]
        refine wpAnyH_ready (rs := [7]) (by kernel_rfl) (by simp) ?_;refine AllReadyH.cons rfl (fun K hK => ?_) AllReadyH.nil;go_simp;have hb9 := hbk.set_ 11 (.slice A8 (cs ++ [cd]).length c8);obtain ⟨w9, Hw9⟩ := nm (w8'.setCell ⟨w8.heap.size, 11, none⟩ (.slice A8 (cs ++ [cd]).length c8));have e9 := Hw9.out;rw [e9] at hb9;rw [List.length_append, List.length_singleton] at e9;rw [e9]
        have u9 : Upd (· = w8.heap.size) w8' w9 := by rw [← Hw9.out]; exact updCell _ _ _ _
        have HS := Lib.hid (HS.out.app hu8 hcd hat8 u9 (by simpa [rlCells] using hb9));clear hbk k11 kf hcd hu8 hat8 hb9 u9 Hw9 e9;refine hK.out _ _ ?_ (fun hHeld => ?_)
        ·
         exact trivial
        clear hK K
        try simp only [put_y, put_z]
        refine wpAnyH_done (by kernel_rfl) ?_ _
        have HM : Hid (0 < fu ∧ CdL T fin y5 y' (cs ++ [cd]) (fu - 1)) := by
         have h2 := HRS.out;rw [Hyy.out] at h2;exact CdL.more HC.out HTK.out H05.out HIT.out h2
        have hg0 := HM.out.1;have HC2 : Hid (CdL T fin y5 y' (cs ++ [cd]) (fu - 1)) := HM.out.2;clear HM HRS Hyy HC HTK H05
        go_wp2_with fail
        go_roundg (fu - 1)
        case measure => rw [Hfu.out]; omega
        case rel => exact ⟨fu - 1, A8, c8, cs ++ [cd], y', rfl, HS, HG2, HL2, HC2, by rw [List.length_append, List.length_singleton]; omega⟩
       ·
        skip;go_simp;refine (rCond_c hL HS.out.loc.rd HG.out HL.out).mono ?_;rintro e wc6 ⟨cd, y', rfl, hy', hg', hl', ho', hu', hres⟩;have HS := Lib.hid (HS.out.call hy' ho' hu');have HG2 := Lib.hid hg';have HL2 : Hid (y'.left = false) := hl'.trans HL.out;have HRS := Lib.hid hres;clear hy' hg' ho' hu' hres hl'
        go_wp2_with fail
        refine hK.out _ _ ?_ (fun hHeld => ?_)
        ·
         exact trivial
        clear hK K
        try simp only [put_y, put_z]
        have hbk := HS.out.rl;unfold rlCells at hbk;have k11 := hbk.cell 11
        refine wpAnyH_takeM (fun w' => w'.cell? ⟨w8.heap.size, 11, none⟩ = some (.slice CA cs.length cc)) (calm_cell _ _) [5, 6, 7] (i := 1) (v := ?_) rfl (by kernel_rfl) (by kernel_rfl) (by kernel_rfl) (by kernel_rfl) (fun _ _ _ h => h) (Or.inl ⟨by rfl, ?_⟩) (k11) (by assumption) ?_
        rotate_left
        ·
         intro w hSw; (try dsimp only at hSw); go_simp; try with_reducible rfl
        try simp only [put_y, put_z]
        clear hbk k11;refine wpAnyH_ready (rs := [4]) (by kernel_rfl) (by simp) ?_;refine AllReadyH.cons rfl (fun K hK => ?_) AllReadyH.nil;go_simp;have HS := Lib.hid (HS.out.non (Upd.refl.alloc (.cells #[.int .i64 cd.kind, .int .i64 cd.a, .int .i64 cd.b, .int .i64 cd.n] 69) (S := Non)));refine hK.out _ _ ?_ (fun hHeld => ?_)
        ·
         exact trivial
        clear hK K
        try simp only [put_y, put_z]
        refine wpAnyH_ready (rs := [5]) (by kernel_rfl) (by simp) ?_;refine AllReadyH.cons rfl (fun K hK => ?_) AllReadyH.nil;have hko := HS.out.cds;unfold CdO at hko;refine step_app rfl rfl T_conds rfl hko rfl (Sl.new _ _ _) rfl (by simp [Value.oneCell']) (by simp only [maxLen]; omega) (by omega) ?_;intro A8 c8 w8' ho8 hu8 hat8;have hcd := CdO.of rfl ho8
        have hbk := HS.out.rl.upd hu8 HS.out.ncd.2.2.2;unfold rlCells at hbk;have k11 := hbk.cell 11;have kf := hbk.frozen;clear hko ho8;refine hK.out _ _ ?_ (fun hHeld => ?_)
        ·
         exact trivial
        clear hK K
        try simp only [put_y, put_z]
        refine wpT 6 ?_
        try simp only [put_y, put_z]
        refine wpAnyH_ready (rs := [7]) (by kernel_rfl) (by simp) ?_;refine AllReadyH.cons rfl (fun K hK => ?_) AllReadyH.nil;go_simp;have hb9 := hbk.set_ 11 (.slice A8 (cs ++ [cd]).length c8);obtain ⟨w9, Hw9⟩ := nm (w8'.setCell ⟨w8.heap.size, 11, none⟩ (.slice A8 (cs ++ [cd]).length c8));have e9 := Hw9.out;rw [e9] at hb9;rw [List.length_append, List.length_singleton] at e9;rw [e9]
        have u9 : Upd (· = w8.heap.size) w8' w9 := by rw [← Hw9.out]; exact updCell _ _ _ _
        have HS := Lib.hid (HS.out.app hu8 hcd hat8 u9 (by simpa [rlCells] using hb9));clear hbk k11 kf hcd hu8 hat8 hb9 u9 Hw9 e9;refine hK.out _ _ ?_ (fun hHeld => ?_)
        ·
         exact trivial
        clear hK K
        try simp only [put_y, put_z]
        refine wpAnyH_done (by kernel_rfl) ?_ _
        have HM : Hid (0 < fu ∧ CdL T fin y5 y' (cs ++ [cd]) (fu - 1)) := by
         have h2 := HRS.out;rw [Hyy.out] at h2;exact CdL.more HC.out HTK.out H05.out HIT.out h2
        have hg0 := HM.out.1;have HC2 : Hid (CdL T fin y5 y' (cs ++ [cd]) (fu - 1)) := HM.out.2;clear HM HRS Hyy HC HTK H05
        go_wp2_with fail
        go_roundg (fu - 1)
        case measure => rw [Hfu.out]; omega
        case rel => exact ⟨fu - 1, A8, c8, cs ++ [cd], y', rfl, HS, HG2, HL2, HC2, by rw [List.length_append, List.length_singleton]; omega⟩
  case rest =>
   clear HG7 HL7 HS17;obtain ⟨CA, cc, cs, y6, HS, HG, HR6⟩ := hcut
   have hyl : y6.i < L.length := by have := hL.lt; have := HG.out.1; omega
   have CE := Lib.hid (rExpect_c HS.out.loc.rd hyl hLl [59])
   go_wp2_with fail
   refine CE.out.mono ?_;rintro e w19 ⟨rfl, hy19, hu19⟩;have HS19 := Lib.hid (HS.out.exp hy19 hu19);have hg19 : Good T (y6.exp L [59]) := exp_good hL HG.out;have HGE := Lib.hid hg19;clear CE hy19 hu19 hg19 HS
   go_upto_region 25 with fail
   obtain ⟨wD, HwD⟩ := nm w19.drew
   have uD : Upd Non w19 wD := by rw [← HwD.out]; exact Upd.refl.drew
   have HS := Lib.hid (HS19.out.non uD);clear HS19 uD;obtain ⟨vn, Hvn⟩ := nm (y6.exp L [59]).vs.length;obtain ⟨mn, Hmn⟩ := nm (y6.exp L [59]).ms.length;have hcs := HS.out.loc.rd.cells;rw [Hvn.out, Hmn.out] at hcs
   refine wp_region_held_drew (S := fun w' => w'.cell? ⟨p, 4, none⟩ = some (.slice (y6.exp L [59]).va vn (y6.exp L [59]).vc) ∧ w'.cell? ⟨p, 5, none⟩ = some (.slice (y6.exp L [59]).ma mn (y6.exp L [59]).mc)) (by kernel_rfl) (by rw [HwD.out]; exact ⟨hcs.2.2.2.2.1, hcs.2.2.2.2.2.1⟩) (fun hHeld => ?_)
   rw [HwD.out] at hHeld ⊢;clear hcs;refine wpT 0 ?_
   try simp only [put_y, put_z]
   refine wpT 1 ?_
   try simp only [put_y, put_z]
   refine wpT 2 ?_
   try simp only [put_y, put_z]
   refine wpT 3 ?_
   try simp only [put_y, put_z]
   refine wpT 4 ?_
   try simp only [put_y, put_z]
   refine wpT 5 ?_
   try simp only [put_y, put_z]
   refine wpT 6 ?_
   try simp only [put_y, put_z]
   refine wpT 7 ?_
   try simp only [put_y, put_z]
   refine wpT 8 ?_
   try simp only [put_y, put_z]
   refine wpT 9 ?_
   try simp only [put_y, put_z]
   refine wpT 10 ?_
   try simp only [put_y, put_z]
   have hbk := HS.out.rl;unfold rlCells at hbk;have k12 := hbk.cell 12;have kf := hbk.frozen;refine wpAnyH_ready (rs := [11]) (by kernel_rfl) (by simp) ?_;refine AllReadyH.cons rfl (fun K hK => ?_) AllReadyH.nil;go_simp;obtain ⟨W20, HW20⟩ := nm (wD.setCell ⟨w8.heap.size, 12, none⟩ (.int .i64 (vn : Nat)));rw [HW20.out]
   have u20 : Upd (· = w8.heap.size) wD W20 := by rw [← HW20.out]; exact updCell _ _ _ _
   have b20 : Blk W20 w8.heap.size 43 (rlCells ⟨kstr ts, q1, q2, cs, vn, 0⟩ ⟨KA1, kc1, KA2, kc2, CA, cc⟩) := by
    have := hbk.set_ 12 (.int .i64 (vn : Nat));rw [HW20.out] at this
    simpa [rlCells] using this
   have HS20 := Lib.hid (HS.out.rule u20 b20 rfl rfl rfl HS.out.kl HS.out.kr);have hcs := HS20.out.loc.rd.cells;rw [Hvn.out, Hmn.out] at hcs;refine hK.out _ _ ?_ (fun hHeld => ?_)
   ·
    exact ⟨hcs.2.2.2.2.1, hcs.2.2.2.2.2.1⟩
   clear hK K
   try simp only [put_y, put_z]
   clear hcs hbk k12 kf u20 b20 HS HW20;refine wpT 12 ?_
   try simp only [put_y, put_z]
   have hbk := HS20.out.rl;unfold rlCells at hbk;have k13 := hbk.cell 13;have kf := hbk.frozen;refine wpAnyH_ready (rs := [13]) (by kernel_rfl) (by simp) ?_;refine AllReadyH.cons rfl (fun K hK => ?_) AllReadyH.nil;go_simp;obtain ⟨W21, HW21⟩ := nm (W20.setCell ⟨w8.heap.size, 13, none⟩ (.int .i64 (mn : Nat)));rw [HW21.out]
   have u21 : Upd (· = w8.heap.size) W20 W21 := by rw [← HW21.out]; exact updCell _ _ _ _
   have b21 : Blk W21 w8.heap.size 43 (rlCells ⟨kstr ts, q1, q2, cs, vn, mn⟩ ⟨KA1, kc1, KA2, kc2, CA, cc⟩) := by
    have := hbk.set_ 13 (.int .i64 (mn : Nat));rw [HW21.out] at this
    simpa [rlCells] using this
   have HS21 := Lib.hid (HS20.out.rule u21 b21 rfl rfl rfl HS20.out.kl HS20.out.kr);have hcs := HS21.out.loc.rd.cells;rw [Hvn.out, Hmn.out] at hcs;refine hK.out _ _ ?_ (fun hHeld => ?_)
   ·
    exact ⟨hcs.2.2.2.2.1, hcs.2.2.2.2.2.1⟩
   clear hK K
   try simp only [put_y, put_z]
   clear hcs hbk k13 kf u21 b21 HS20 HW21;refine wpAnyH_done (by kernel_rfl) ?_ _
   go_upto_region 26 with fail
   obtain ⟨wE, HwE⟩ := nm W21.drew
   have uE : Upd Non W21 wE := by rw [← HwE.out]; exact Upd.refl.drew
   have HS := Lib.hid (HS21.out.non uE);clear HS21 uE
   refine wp_region_held_drew (S := fun w' => w'.cell? ⟨w8.heap.size, 0, none⟩ = some (.string (kstr ts)) ∧ w'.cell? ⟨w8.heap.size, 1, none⟩ = some (.int .i64 q1.v) ∧ w'.cell? ⟨w8.heap.size, 2, none⟩ = some (.int .i64 q1.op) ∧ w'.cell? ⟨w8.heap.size, 3, none⟩ = some (.int .i64 q1.imm) ∧ w'.cell? ⟨w8.heap.size, 4, none⟩ = some (.int .i64 q1.iv) ∧ w'.cell? ⟨w8.heap.size, 5, none⟩ = some (.slice KA1 q1.kids.length kc1) ∧ w'.cell? ⟨w8.heap.size, 6, none⟩ = some (.int .i64 q2.v) ∧ w'.cell? ⟨w8.heap.size, 7, none⟩ = some (.int .i64 q2.op) ∧ w'.cell? ⟨w8.heap.size, 8, none⟩ = some (.int .i64 q2.imm) ∧ w'.cell? ⟨w8.heap.size, 9, none⟩ = some (.int .i64 q2.iv) ∧ w'.cell? ⟨w8.heap.size, 10, none⟩ = some (.slice KA2 q2.kids.length kc2) ∧ w'.cell? ⟨w8.heap.size, 11, none⟩ = some (.slice CA cs.length cc) ∧ w'.cell? ⟨w8.heap.size, 12, none⟩ = some (.int .i64 (vn : Nat)) ∧ w'.cell? ⟨w8.heap.size, 13, none⟩ = some (.int .i64 (mn : Nat)) ∧ w'.cell? ⟨w6.heap.size, 0, none⟩ = some (.string (kstr ts)) ∧ w'.cell? ⟨w6.heap.size, 1, none⟩ = some (.int .i64 (tp : Nat)) ∧ w'.cell? ⟨w6.heap.size, 2, none⟩ = some (.bool false)) (by kernel_rfl) (by rw [HwE.out]; exact rt_cells HS.out.rl HS.out.tk) (fun hHeld => ?_)
   rw [HwE.out] at hHeld ⊢;refine wpT 0 ?_
   try simp only [put_y, put_z]
   refine wpT 1 ?_
   try simp only [put_y, put_z]
   have b0 := HS.out.res;unfold z14 at b0;have z0 := b0.cell 0;have z1 := b0.cell 1;have z2 := b0.cell 2;have z3 := b0.cell 3;have z4 := b0.cell 4;have z5 := b0.cell 5;have z6 := b0.cell 6;have z7 := b0.cell 7;have z8 := b0.cell 8;have z9 := b0.cell 9;have z10 := b0.cell 10;have z11 := b0.cell 11;have z12 := b0.cell 12;have z13 := b0.cell 13;have zf := b0.frozen
   refine wpAnyH_ready (rs := [2]) (by kernel_rfl) (by simp) ?_;refine AllReadyH.cons rfl (fun K hK => ?_) AllReadyH.nil;go_simp;rw [set14_eq]
   obtain ⟨W22, HW22⟩ := nm (set14 wE w.heap.size (.string (kstr ts)) (.int .i64 q1.v) (.int .i64 q1.op) (.int .i64 q1.imm) (.int .i64 q1.iv) (.slice KA1 q1.kids.length kc1) (.int .i64 q2.v) (.int .i64 q2.op) (.int .i64 q2.imm) (.int .i64 q2.iv) (.slice KA2 q2.kids.length kc2) (.slice CA cs.length cc) (.int .i64 (vn : Nat)) (.int .i64 (mn : Nat)))
   rw [HW22.out]
   have u22 : Upd (· = w.heap.size) wE W22 := by rw [← HW22.out]; exact set14_upd _ _ _ _ _ _ _ _ _ _ _ _ _ _ _ _
   have hb22 : Blk W22 w.heap.size 43 (rlCells ⟨kstr ts, q1, q2, cs, vn, mn⟩ ⟨KA1, kc1, KA2, kc2, CA, cc⟩) := by rw [← HW22.out]; exact set14_blk b0 _ _ _ _ _ _ _ _ _ _ _ _ _ _
   have HK22 := Lib.hid (HS.out.tkr.upd u22 (by omega));have U22 : Upd (P2 w.heap.size) wE W22 := u22.mono (fun _ _ e => .inl e);have HF := HS.out.fin U22;refine hK.out _ _ ?_ (fun hHeld => ?_)
   ·
    exact rt_cells HF.2.2.2 HF.2.2.1
   clear hK K
   try simp only [put_y, put_z]
   have HB22 := Lib.hid hb22;clear b0 zf z0 z1 z2 z3 z4 z5 z6 z7 z8 z9 z10 z11 z12 z13 hb22 HW22 HF;have b0 := HK22.out;unfold z3 at b0;have y0_ := b0.cell 0;have y1_ := b0.cell 1;have y2_ := b0.cell 2;have yf := b0.frozen;refine wpAnyH_ready (rs := [3]) (by kernel_rfl) (by simp) ?_;refine AllReadyH.cons rfl (fun K hK => ?_) AllReadyH.nil;go_simp;rw [set3_eq]
   obtain ⟨W23, HW23⟩ := nm (set3 W22 (w.heap.size + 1) (.string (kstr ts)) (.int .i64 (tp : Nat)) (.bool false));rw [HW23.out]
   have u23 : Upd (· = w.heap.size + 1) W22 W23 := by rw [← HW23.out]; exact set3_upd _ _ _ _ _
   have hb23 : Blk W23 (w.heap.size + 1) 62 #[.string (kstr ts), .int .i64 tp, .bool false] := by rw [← HW23.out]; exact set3_blk b0 _ _ _
   have HB23 := Lib.hid (HB22.out.upd u23 (by omega));have HK23 := Lib.hid hb23;have HF := HS.out.fin (U22.trans (u23.mono (T := P2 w.heap.size) (fun _ _ e => .inr e)) (fun _ _ q => q));refine hK.out _ _ ?_ (fun hHeld => ?_)
   ·
    exact rt_cells HF.2.2.2 HF.2.2.1
   clear hK K
   try simp only [put_y, put_z]
   have HFF := Lib.hid HF;clear b0 yf y0_ y1_ y2_ hb23 HW23 HF HB22 HK22;refine wpAnyH_ready (rs := [4]) (by kernel_rfl) (by simp) ?_;refine AllReadyH.cons rfl (fun K hK => ?_) AllReadyH.nil;go_simp;refine hK.out _ _ ?_ (fun hHeld => ?_)
   ·
    exact rt_cells HFF.out.2.2.2 HFF.out.2.2.1
   clear hK K
   try simp only [put_y, put_z]
   refine wpAnyH_done (by kernel_rfl) ?_ _
   go_wp2_with fail
   refine bodyPost_ret (results_cell_cell_tmp rfl _ _ w.heap.size 43 _ (0, 0) _ (w.heap.size + 1) 62 _ (0, 0) _ rfl HB23.out Tryz.underlying43 rfl (by kernel_rfl) rfl HK23.out Tryz.underlying62 rfl (by kernel_rfl)) rfl ?_
   rw [← Hr.out]
   refine ⟨⟨kstr ts, q1, q2, cs, vn, mn⟩, ⟨KA1, kc1, KA2, kc2, CA, cc⟩, ts, tp, true, y6.exp L [59], rfl, HFF.out.2.1, HFF.out.1.rd, HGE.out, HFF.out.1.own, HFF.out.1.upd, ?_⟩
   have hru := rule_fin hL (fun e he => ifF_err he) HR1.out HG1.out HR3.out HG4.out HR5.out HR6.out HG.out;rw [Hvn.out, Hmn.out] at hru;rw [← Hy0.out] at hru;have h1 := HR1.out;rw [← Hy0.out] at h1;exact item_ru hL HX.out Hz.out h1 (by rw [Hy0.out]; exact HTP.out) hru
set_option maxRecDepth 100000 in
set_option maxHeartbeats 4000000 in
theorem rParse_c (ax : Bs → Option Rl) (hax : ∀ s r, ax s = some r → RlSz r) (s : ByteArray)
  (HAX : Hid ((∃ i, tkF (goodT (toksF (kx s))) i = some [97, 120, 105, 111, 109]) → ∀ (q : Bs) (w : World), Calls Tryz.prog 18 #[.string (kstr q)] w (AxP ax q w))) (w : World) :
  Calls Tryz.prog 10 #[.string s] w (ParseP (parseG ax (kx s)) w) := by
 have HP : Hid (parseG ax (kx s) = if 20000 < (kx s).length then .error (6, 20000) else loopF (goodT (toksF (kx s))) (finT (toksF (kx s))) ax (kx s).length ((kx s).length + 1) ⟨0, [], []⟩ []) := rfl
 obtain ⟨R, HR⟩ := nm (parseG ax (kx s));rw [HR.out] at HP ⊢;obtain ⟨n, Hn⟩ := nm s.size;have hn := Hn.out
 have hkn : (kx s).length = n := by rw [kx_len, hn]
 rw [hkn] at HP;have hx0 : Upd Non w (w.alloc (.cells #[.int .i64 0, .int .i64 0] 31)) := Upd.refl.alloc _;have hb0 : Blk (w.alloc (.cells #[.int .i64 0, .int .i64 0] 31)) w.heap.size 31 #[.int .i64 0, .int .i64 0] := Blk.new _ _ _
 by_cases hbig : 20000 < n
 ·
  have t0 : decide ((20000 : Int) < (n : Int)) = true := decide_eq_true (by omega)
  have HE : Hid (R = .error (6, 20000)) := by show _ = _; rw [HP.out, if_pos hbig]
  clear hbig hkn;go_enter Tryz.func10, Tryz.ntmps10
  go_wp2_with fail
  refine bodyPost_ret (results_tmp_cell rfl _ _ w.heap.size 31 _ (0, 0) _ rfl (Blk.new _ _ _) Tryz.underlying31 rfl (by kernel_rfl)) rfl ?_;exact ⟨Upd.refl.alloc _, .inl ⟨_, HE.out, rfl⟩⟩
 ·
  have t0 : decide ((20000 : Int) < (n : Int)) = false := decide_eq_false (by omega)
  have HE : Hid (R = loopF (goodT (toksF (kx s))) (finT (toksF (kx s))) ax n (n + 1) ⟨0, [], []⟩ []) := by show _ = _; rw [HP.out, if_neg hbig]
  have hn2 : n ≤ 20000 := by omega
  obtain ⟨W1, HW1⟩ := nm (w.alloc (.cells #[.int .i64 0, .int .i64 0] 31));have CT := Lib.hid (rTokenize_c s W1 (by omega));have e1 := HW1.out;rw [e1] at hx0 hb0
  have s1 : W1.heap.size = w.heap.size + 1 := by rw [← e1]; simp
  have HB1 := Lib.hid hb0;have HU1 := Lib.hid hx0
  have hkl : (kx s).length ≤ 20000 := by omega
  obtain ⟨LT, HLT⟩ := nm (toksF (kx s))
  have HLK : Hid (LT.length ≤ n + 1 → LOk LT (goodT LT) (finT LT)) := fun q => by
   have := lok_toks hkl (by rw [HLT.out, hkn]; exact q);rw [HLT.out] at this;exact this
  rw [HLT.out] at CT HE HAX;obtain ⟨T, HT⟩ := nm (goodT LT);obtain ⟨fin, HF⟩ := nm (finT LT);rw [HT.out] at HE HAX HLK;rw [HF.out] at HE HLK;clear hbig hkn hx0 hb0 HP hkl;go_enter Tryz.func10, Tryz.ntmps10
  go_wp2_with fail
  refine CT.out.mono ?_;rintro e w2 ⟨A, c, rfl, hto, hat, hlen, hu2⟩;rw [hn] at hlen;have hLK := HLK.out hlen;obtain ⟨W3, HW3⟩ := nm (w2.alloc (.cells #[.slice A LT.length c, .int .i64 0, .int .i64 0, .int .i64 0, .slice none 0 0, .slice none 0 0, .bool false] 59));have hp2 : w2.heap.size = w2.heap.size := rfl
  have u3 : Upd Non w2 W3 := by rw [← HW3.out]; exact Upd.refl.alloc _
  have b3 : Blk W3 w2.heap.size 59 #[.slice A LT.length c, .int .i64 0, .int .i64 0, .int .i64 0, .slice none 0 0, .slice none 0 0, .bool false] := by rw [← HW3.out]; exact Blk.new _ _ _
  have s3 : W3.heap.size = w2.heap.size + 1 := by rw [← HW3.out]; simp
  have hs2 := hu2.size;obtain ⟨W4, HW4⟩ := nm (W3.alloc (.map #[] 0))
  have u4 : Upd Non W3 W4 := by rw [← HW4.out]; exact Upd.refl.alloc _
  have HS : Hid (PaS w W4 w2.heap.size (w2.heap.size + 1) A c LT ⟨0, 0, 0, none, 0, [], none, 0, [], false⟩ none 0 []) := by
   have hr3 : RdS W3 w2.heap.size A c LT ⟨0, 0, 0, none, 0, [], none, 0, [], false⟩ := ⟨b3, (hto.view.upd u3 (fun _ _ _ f => f)).mono (fun k hk q => Own.lt hto q), Own.le hto, Own.none_, Own.none_, fun k q => (At.none_ q).elim, fun k q => (At.none_ q).elim, fun k q => (At.none_ q).elim⟩
   refine ⟨hr3.non u4, ((HB1.out.upd hu2 (fun f => f)).upd u3 (fun f => f)).upd u4 (fun f => f), RlO.none_, ?_, fun k q => ?_, fun k q => (At.none_ q).elim, by omega, ((HU1.out.then_non hu2).then_non u3).then_non u4⟩
   ·
    rw [nmV_nil, ← HW4.out, ← s3]; exact SMap.new W3
   ·
    rcases q with q | q | q
    ·
     omega
    ·
     exact (At.none_ q).elim
    ·
     exact (At.none_ q).elim
  have HG : Hid (Good T ⟨0, 0, 0, none, 0, [], none, 0, [], false⟩) := ⟨Nat.zero_le _, fun _ => ⟨Nat.le_refl _, Nat.le_refl _⟩⟩
  have HL : Hid (LpR T fin ax n R ⟨0, 0, 0, none, 0, [], none, 0, [], false⟩ [] (n + 1)) := ⟨fun _ => ⟨by have := hLK.lt; show T.length < n + 1 + 0; omega, Nat.zero_le _, HE.out.symm⟩, fun q => absurd rfl q⟩
  have HLT : Hid (LOk LT T fin) := hLK;have hmm := @run_makeMap Tryz.prog;clear b3 u3 u4 hs2 hu2 hat hto HW1 HB1 HU1 HE HLK e1 hLK hp2
  go_wp2_with fail
  rw [HW3.out, HW4.out];clear hmm
  go_loopg [5, 7, 8, 9, 43, 47, 54, 62, 71] (n + 1) (fun g o _ _ _ _ _ _ _ _ wr => ∃ (fu : Nat) (y : St) (OA : Option Addr) (oc : Nat) (Q : List Rl), Hid (g = fu) ∧ o = .slice OA Q.length oc ∧ Hid (PaS w wr w2.heap.size (w2.heap.size + 1) A c LT y OA oc Q) ∧ Hid (Good T y) ∧ Hid (LpR T fin ax n R y Q fu) ∧ Q.length ≤ 161)
  case atStart => exact ⟨_, _, none, 0, [], rfl, rfl, HS, HG, HL, Nat.zero_le _⟩
  case round =>
   clear HS HG HL;obtain ⟨fu, y, OA, oc, Q, Hfu, rfl, HS, HG, HL, hQl⟩ := hrel
   have hyl : y.i < LT.length := by have := HLT.out.lt; have := HG.out.1; omega
   obtain ⟨D, HD⟩ := nm (y.why == 0 && decide (offF T fin y.i < n));have HD0 := HD;rw [← HLT.out.pos HG.out.1, posT_eq hyl] at HD
   go_upto_region 6 with fail
   go_cut [36] (fun s wx => s = .bool D ∧ Upd Non wr wx)
   case first =>
    obtain ⟨c0, c1, c2, c3, c4, c5, c6⟩ := HS.out.rd.cells;obtain ⟨b, o, rfl, hF, hb, t0_, t1, t2⟩ := HS.out.rd.tok.at_ hyl;have hle := HS.out.rd.le;have HH := Lib.hid HS.out.rd;obtain ⟨ln, Hln⟩ := nm LT.length;rw [Hln.out] at c0 hyl hle;obtain ⟨i, Hi⟩ := nm y.i;rw [Hi.out] at c1 hyl
    have t1' : wr.cell? ⟨b, o + i * 3 + 1, none⟩ = some (.int .i64 LT[y.i].pos) := by rw [← Hi.out]; exact t1
    generalize LT[y.i].pos = pz at *;obtain ⟨z, Hz⟩ := nm (y.why == 0);rw [Hz.out] at HD
    have CO : Hid (∀ w', Upd Non wr w' → Calls Tryz.prog 28 #[.pointer (some ⟨w2.heap.size, 0, none⟩)] w' fun e w2 => e = .returned (.bool z) ∧ w2 = w') := fun w' u => by
     rw [← Hz.out]; exact rOk_c (HH.out.non u)
    obtain ⟨dd, Hdd⟩ := nm (decide (pz < n));rw [Hdd.out] at HD
    have hdd : decide ((pz : Int) < (n : Int)) = dd := by rw [← Hdd.out]; simp
    clear t0_ t1 t2 c2 c3 c4 c5 c6 HS HG HL CT;obtain ⟨wD, HwD⟩ := nm wr.drew
    have uD : Upd Non wr wD := by rw [← HwD.out]; exact Upd.refl.drew
    refine wp_region_held_drew (S := fun w' => Upd Non wr w' ∧ w'.cell? ⟨w2.heap.size, 0, none⟩ = some (.slice (some ⟨b, o, none⟩) ln c) ∧ w'.cell? ⟨w2.heap.size, 1, none⟩ = some (.int .i64 i) ∧ w'.cell? ⟨b, o + i * 3 + 1, none⟩ = some (.int .i64 pz)) (by kernel_rfl) (by rw [HwD.out]; exact ⟨uD, cell_upd c0 uD (fun f => f), cell_upd c1 uD (fun f => f), cell_upd t1' uD (fun f => f)⟩) (fun hHeld => ?_)
    rw [HwD.out] at hHeld ⊢;refine wpT 0 ?_
    try simp only [put_y, put_z]
    refine wpAnyH_takeC (i := 1) (v := ?v1) rfl (by kernel_rfl) (by kernel_rfl) (by kernel_rfl) (fun _ _ _ h => h) ⟨by rfl, ?f1, ?a1, ?r1, ?c1⟩ (by assumption) ?m1
    case r1 => intro w; go_simp; constructor <;> with_reducible rfl
    case c1 => intro W hSw; refine (CO.out _ hSw.1).mono ?_; rintro e w' ⟨rfl, rfl⟩; constructor <;> with_reducible rfl
    try simp only [put_y, put_z]
    cases z with
    | false =>
     obtain rfl : D = false := by rw [← HD.out]; rfl
     refine wpT 2 ?_
     try simp only [put_y, put_z]
     refine wpU 3 ?_
     try simp only [put_y, put_z]
     refine wpU 4 ?_
     try simp only [put_y, put_z]
     refine wpU 5 ?_
     try simp only [put_y, put_z]
     refine wpU 6 ?_
     try simp only [put_y, put_z]
     refine wpU 7 ?_
     try simp only [put_y, put_z]
     refine wpU 8 ?_
     try simp only [put_y, put_z]
     refine wpU 9 ?_
     try simp only [put_y, put_z]
     refine wpU 10 ?_
     try simp only [put_y, put_z]
     refine wpU 11 ?_
     try simp only [put_y, put_z]
     refine wpU 12 ?_
     try simp only [put_y, put_z]
     refine wpU 13 ?_
     try simp only [put_y, put_z]
     refine wpU 14 ?_
     try simp only [put_y, put_z]
     refine wpU 15 ?_
     try simp only [put_y, put_z]
     refine wpU 16 ?_
     try simp only [put_y, put_z]
     refine wpT 17 ?_
     try simp only [put_y, put_z]
     refine wpAnyH_done (by kernel_rfl) ?_ _
     go_wp2_with fail
     go_meet
     case rel => exact ⟨rfl, uD⟩
    | true =>
     obtain rfl : dd = D := by rw [← HD.out]; rfl
     refine wpT 2 ?_
     try simp only [put_y, put_z]
     refine wpT 3 ?_
     try simp only [put_y, put_z]
     refine wpT 4 ?_
     try simp only [put_y, put_z]
     refine wpT 5 ?_
     try simp only [put_y, put_z]
     refine wpT 6 ?_
     try simp only [put_y, put_z]
     refine wpT 7 ?_
     try simp only [put_y, put_z]
     refine wpT 8 ?_
     try simp only [put_y, put_z]
     refine wpT 9 ?_
     try simp only [put_y, put_z]
     refine wpT 10 ?_
     try simp only [put_y, put_z]
     refine wpT 11 ?_
     try simp only [put_y, put_z]
     refine wpT 12 ?_
     try simp only [put_y, put_z]
     refine wpT 13 ?_
     try simp only [put_y, put_z]
     refine wpT 14 ?_
     try simp only [put_y, put_z]
     refine wpT 15 ?_
     try simp only [put_y, put_z]
     refine wpT 16 ?_
     try simp only [put_y, put_z]
     refine wpT 17 ?_
     try simp only [put_y, put_z]
     refine wpAnyH_done (by kernel_rfl) ?_ _
     go_wp2_with fail
     go_meet
     case rel => exact ⟨congrArg Value.bool Hdd.out, uD⟩
   case rest =>
    obtain ⟨rfl, hwc⟩ := hcut;have HS := Lib.hid (HS.out.non hwc);clear hwc
    cases D with
    | false =>
     obtain ⟨hx1, hx2⟩ := HL.out.exit HG.out.1 HD0.out;have CO := Lib.hid (rOk_c HS.out.rd);have her := HS.out.er;have r0 := her.cell 0;have r1 := her.cell 1;have rf := her.frozen;obtain ⟨z, Hz⟩ := nm (y.why == 0);rw [Hz.out] at CO;have HX1 := Lib.hid hx1;have HX2 := Lib.hid hx2;clear hx1 hx2 HL HD HD0
     cases z with
     | true =>
      have H0 : Hid (y.why = 0) := by have := Hz.out; exact beq_iff_eq.1 this
      go_wp2_with fail
      refine CO.out.mono ?_;rintro e w5 ⟨rfl, rfl⟩
      go_wp2_with fail
      rw [setE2_eq];obtain ⟨f1, f2, f3, f4⟩ := HS.out.res (.int .i64 0) (.int .i64 0);refine bodyPost_ret (results_tmp_cell rfl _ _ w.heap.size 31 _ (0, 0) _ rfl f1 Tryz.underlying31 rfl (by kernel_rfl)) rfl ?_;exact ⟨f2, .inr ⟨Q, OA, oc, HX1.out H0.out, rfl, f4, HS.out.out.le⟩⟩
     | false =>
      have H0 : Hid (y.why ≠ 0) := by have := Hz.out; exact fun q => by rw [q] at this; cases this
      go_wp2_with fail
      refine CO.out.mono ?_;rintro e w5 ⟨rfl, rfl⟩
      go_upto_region 20 with fail
      obtain ⟨wD, HwD⟩ := nm w5.drew
      have uD : Upd Non w5 wD := by rw [← HwD.out]; exact Upd.refl.drew
      have HS := Lib.hid (HS.out.non uD);clear her r0 r1 rf;have hcs := HS.out.rd.cells
      refine wp_region_held_drew (S := fun w' => w'.cell? ⟨w2.heap.size, 2, none⟩ = some (.int .i64 y.why) ∧ w'.cell? ⟨w2.heap.size, 3, none⟩ = some (.int .i64 y.ea)) (by kernel_rfl) (by rw [HwD.out]; exact ⟨hcs.2.2.1, hcs.2.2.2.1⟩) (fun hHeld => ?_)
      rw [HwD.out] at hHeld ⊢;refine wpT 0 ?_
      try simp only [put_y, put_z]
      refine wpT 1 ?_
      try simp only [put_y, put_z]
      refine wpT 2 ?_
      try simp only [put_y, put_z]
      refine wpT 3 ?_
      try simp only [put_y, put_z]
      refine wpT 4 ?_
      try simp only [put_y, put_z]
      have her := HS.out.er;have r0 := her.cell 0;have r1 := her.cell 1;have rf := her.frozen;refine wpAnyH_ready (rs := [5]) (by kernel_rfl) (by simp) ?_;refine AllReadyH.cons rfl (fun K hK => ?_) AllReadyH.nil;go_simp;rw [setE2_eq];have HF := Lib.hid (HS.out.res (.int .i64 y.why) (.int .i64 y.ea));obtain ⟨W9, HW9⟩ := nm (setE2 wD w.heap.size (.int .i64 y.why) (.int .i64 y.ea))
      rw [HW9.out] at HF ⊢;refine hK.out _ _ ?_ (fun hHeld => ?_)
      ·
       exact ⟨HF.out.2.2.1.cell 2, HF.out.2.2.1.cell 3⟩
      clear hK K
      try simp only [put_y, put_z]
      refine wpAnyH_done (by kernel_rfl) ?_ _
      go_wp2_with fail
      refine bodyPost_ret (results_tmp_cell rfl _ _ w.heap.size 31 _ (0, 0) _ rfl HF.out.1 Tryz.underlying31 rfl (by kernel_rfl)) rfl ?_;exact ⟨HF.out.2.1, .inl ⟨_, HX2.out H0.out, rfl⟩⟩
    | true =>
     have hD := HD0.out;simp only [Bool.and_eq_true, beq_iff_eq, decide_eq_true_eq] at hD;have H0 := Lib.hid hD.1;have HDT := Lib.hid hD.2;have CIT := Lib.hid (rItem_c HLT.out ax HAX HS.out.rd HG.out);clear hD HD HD0 CT
     go_wp2_with fail
     refine CIT.out.mono ?_;rintro e w5 ⟨rl, a, ts, tp, b, y', rfl, hrk, hrd', hg', ho', hu', hres⟩;have HS5 := Lib.hid (HS.out.call hrd' ho' hu');have hmw : w2.heap.size + 1 < wc.heap.size := HS.out.map.lt
     have hoa : ∀ k, At OA k → k < wc.heap.size := fun k q => HS.out.out.lt q
     have hs5 := hu'.size;obtain ⟨m, Hm⟩ := nm wc.heap.size;rw [Hm.out] at hrk hmw hoa hs5;have HRK := Lib.hid hrk;have HOA := Lib.hid hoa;clear hoa Hm;have HG' := Lib.hid hg';have hQ2 : Q.length ≤ 160 := (HL.out.1 H0.out).2.1;have HRD := Lib.hid (HL.out.item HLT.out hax HG.out.1 H0.out HDT.out hres);clear hrk hrd' hg' ho' hu' hres CIT HS HL HG H0 HDT;unfold rlv tokVal rlCells
     go_upto_block 2 with fail
     obtain ⟨W6, HW6⟩ := nm (w5.alloc (.cells #[.string rl.name, .int .i64 rl.l.v, .int .i64 rl.l.op, .int .i64 rl.l.imm, .int .i64 rl.l.iv, .slice a.la rl.l.kids.length a.lc, .int .i64 rl.r.v, .int .i64 rl.r.op, .int .i64 rl.r.imm, .int .i64 rl.r.iv, .slice a.ra rl.r.kids.length a.rc, .slice a.ca rl.conds.length a.cc, .int .i64 rl.vars, .int .i64 rl.imms] 43))
     have u6 : Upd Non w5 W6 := by rw [← HW6.out]; exact Upd.refl.alloc _
     have b6 : Blk W6 w5.heap.size 43 (rlCells rl a) := by rw [← HW6.out]; exact Blk.new _ _ _
     have s6 : W6.heap.size = w5.heap.size + 1 := by rw [← HW6.out]; simp
     rw [HW6.out];obtain ⟨W7, HW7⟩ := nm (W6.alloc (.cells #[.string (kstr ts), .int .i64 tp, .bool false] 62))
     have u7 : Upd Non W6 W7 := by rw [← HW7.out]; exact Upd.refl.alloc _
     have b7 : Blk W7 (w5.heap.size + 1) 62 #[.string (kstr ts), .int .i64 tp, .bool false] := by rw [← HW7.out, ← s6]; exact Blk.new _ _ _
     rw [HW7.out];have hu7 : Upd Non w5 W7 := u6.then_non u7;have HS := Lib.hid (HS5.out.non hu7);have HRK := Lib.hid (HRK.out.upd hu7 (fun _ _ _ f => f));have HX := Lib.hid (b6.upd u7 (fun f => f));have HK := Lib.hid b7;have hs7 := hu7.size;clear u6 u7 b6 b7 hu7 HW6 HW7 HS5;have CO := Lib.hid (rOk_c HS.out.rd);obtain ⟨z, Hz⟩ := nm (y'.why == 0);rw [Hz.out] at CO
     go_cut [] (fun wx => ∃ (y2 : St), Hid (PaS w wx w2.heap.size (w2.heap.size + 1) A c LT y2 OA oc Q) ∧ Hid (Good T y2) ∧ Hid (∀ k, y2.own w2.heap.size k → y'.own w2.heap.size k) ∧ Hid (Upd (· = w2.heap.size) W7 wx) ∧ Hid (LpR T fin ax n R y2 (Q ++ [rl]) (fu - 1)))
     case first =>
      cases z with
      | false =>
       have H0 : y'.why ≠ 0 := by have := Hz.out; exact fun q => by rw [q] at this; cases this
       have HL : Hid (LpR T fin ax n R y' (Q ++ [rl]) (fu - 1)) := ⟨fun q => absurd q H0, HRD.out.2.1⟩;clear H0
       go_wp2_with fail
       refine CO.out.mono ?_;rintro e w8 ⟨rfl, rfl⟩;clear CO
       go_wp2_with fail
       go_meet
       case rel => exact ⟨y', HS, HG', fun _ q => q, Upd.refl, HL⟩
      | true =>
       have H0 : Hid (y'.why = 0) := by have := Hz.out; exact beq_iff_eq.1 this
       have HR2 := Lib.hid (HRD.out.2.2 H0.out);have v1 := HK.out.cell 1
       cases b with
       | false =>
        have HRR := Lib.hid (HR2.out.2.1 rfl);have CF := Lib.hid (rFail_c HS.out.rd 3 tp)
        go_wp2_with fail
        refine CO.out.mono ?_;rintro e w8 ⟨rfl, rfl⟩;clear CO;have HU : Hid (Upd (· = w2.heap.size) w8 w8) := Upd.refl
        go_wp2_with fail
        refine CF.out.mono ?_;rintro e w9 ⟨rfl, hr9, hu9⟩;have HS9 := Lib.hid (HS.out.call hr9 (fun k q => .inl ((fail_own _ _ _ _ _).1 q)) (hu9.mono (fun _ _ e => .inl e)));have HU9 := Lib.hid (HU.out.trans hu9 (fun _ _ q => q));clear hr9 hu9 CF
        go_wp2_with fail
        go_meet
        case rel => exact ⟨_, HS9, Good.fail HG'.out.1 (by decide), fun k q => (fail_own _ _ _ _ _).1 q, HU9, RndR.err H0.out (by decide) HRR.out⟩
       | true =>
        have HRT := Lib.hid (HR2.out.2.2 rfl);have CV := Lib.hid (rlValid_c rl a _ W7 HRK.out HRT.out.1);unfold rlv rlCells at CV;have hbx := HX.out;unfold rlCells at hbx;have k0 := hbx.cell 0;have k1 := hbx.cell 1;have k2 := hbx.cell 2;have k3 := hbx.cell 3;have k4 := hbx.cell 4;have k5 := hbx.cell 5;have k6 := hbx.cell 6;have k7 := hbx.cell 7;have k8 := hbx.cell 8;have k9 := hbx.cell 9
        have k10 := hbx.cell 10;have k11 := hbx.cell 11;have k12 := hbx.cell 12;have k13 := hbx.cell 13;obtain ⟨v, Hv⟩ := nm (implF rl);rw [Hv.out] at CV;clear hbx
        go_wp2_with fail
        refine CO.out.mono ?_;rintro e w8 ⟨rfl, rfl⟩;clear CO
        go_wp2_with fail
        refine CV.out.mono ?_;rintro e w9 ⟨rfl, hu9⟩;have HS := Lib.hid (HS.out.non hu9);have HU : Hid (Upd (· = w2.heap.size) w8 w9) := hu9.mono (fun _ _ f => f.elim);have v1 := cell_upd v1 hu9 (fun f => f);have k0 := cell_upd k0 hu9 (fun f => f);clear CV hu9 k1 k2 k3 k4 k5 k6 k7 k8 k9 k10 k11 k12 k13
        cases v with
        | false =>
         have HRR := Lib.hid (HRT.out.2.1 Hv.out);have CF := Lib.hid (rFail_c HS.out.rd 1 tp);clear k0
         go_wp2_with fail
         refine CF.out.mono ?_;rintro e w9 ⟨rfl, hr9, hu9⟩;have HS9 := Lib.hid (HS.out.call hr9 (fun k q => .inl ((fail_own _ _ _ _ _).1 q)) (hu9.mono (fun _ _ e => .inl e)));have HU9 := Lib.hid (HU.out.trans hu9 (fun _ _ q => q));clear hr9 hu9 CF
         go_wp2_with fail
         go_meet
         case rel => exact ⟨_, HS9, Good.fail HG'.out.1 (by decide), fun k q => (fail_own _ _ _ _ _).1 q, HU9, RndR.err H0.out (by decide) HRR.out⟩
        | true =>
         have HRV := Lib.hid (HRT.out.2.2 Hv.out);have hlook := HS.out.map.look1 Tryz.underlying60 Tryz.underlying9 (zeroBoolP _) rl.name;rw [nmV_get] at hlook;obtain ⟨d, Hd⟩ := nm (Q.any (fun q => decide (q.name = rl.name)));rw [Hd.out] at hlook
         cases d with
         | true =>
          have HRR := Lib.hid (HRV.out.1 Hd.out);have CF := Lib.hid (rFail_c HS.out.rd 4 tp)
          go_wp2_with fail
          refine CF.out.mono ?_;rintro e w9 ⟨rfl, hr9, hu9⟩;have HS9 := Lib.hid (HS.out.call hr9 (fun k q => .inl ((fail_own _ _ _ _ _).1 q)) (hu9.mono (fun _ _ e => .inl e)));have HU9 := Lib.hid (HU.out.trans hu9 (fun _ _ q => q));clear hr9 hu9 CF
          go_wp2_with fail
          go_meet
          case rel => exact ⟨_, HS9, Good.fail HG'.out.1 (by decide), fun k q => (fail_own _ _ _ _ _).1 q, HU9, RndR.err H0.out (by decide) HRR.out⟩
         | false =>
          have HRW := Lib.hid (HRV.out.2 Hd.out)
          by_cases hq : Q.length = 160
          ·
           have HRR := Lib.hid (HRW.out.1 hq)
           have tq : ((Q.length : Int) == 160) = true := by rw [hq]; rfl
           have CF := Lib.hid (rFail_c HS.out.rd 6 tp);clear hq
           go_wp2_with fail
           refine CF.out.mono ?_;rintro e w9 ⟨rfl, hr9, hu9⟩;have HS9 := Lib.hid (HS.out.call hr9 (fun k q => .inl ((fail_own _ _ _ _ _).1 q)) (hu9.mono (fun _ _ e => .inl e)));have HU9 := Lib.hid (HU.out.trans hu9 (fun _ _ q => q));clear hr9 hu9 CF
           go_wp2_with fail
           go_meet
           case rel => exact ⟨_, HS9, Good.fail HG'.out.1 (by decide), fun k q => (fail_own _ _ _ _ _).1 q, HU9, RndR.err H0.out (by decide) HRR.out⟩
          ·
           have HLP := Lib.hid (HRW.out.2 hq)
           have tq : ((Q.length : Int) == 160) = false := by simpa using fun q => hq (by omega)
           clear hq
           go_wp2_with fail
           go_meet
           case rel => exact ⟨y', HS, HG', fun _ q => q, HU, HLP⟩
     case rest =>
      clear HS HG' CO Hz;obtain ⟨y2, HS, HG, HO, HU, HL⟩ := hcut;have hbx := HX.out.upd HU.out (by omega);have HXX := Lib.hid hbx
      have HRK : Hid (RlK wc (fun k => m ≤ k ∧ ¬ y2.own w2.heap.size k) rl a) := (HRK.out.upd HU.out (fun k _ q e => by have := q.1; omega)).mono (fun k _ q => ⟨q.1, fun r => q.2 (HO.out k r)⟩)
      have hlw := HU.out.size;obtain ⟨w10, hst, hsm, hus⟩ := HS.out.map.store Tryz.underlying60 Tryz.underlying9 rl.name (.bool true);rw [nmV_snoc] at hsm;unfold rlCells at hbx;have k0 := hbx.cell 0;obtain ⟨_, cs, hown, hcells⟩ := id HS.out.out;have HCS := Lib.hid hcells;have hown2 := hown.upd hus (fun k q e => by have := HS.out.oat k q; omega);have hb2 := hbx.upd hus (by omega)
      have z0 := hb2.cell 0;have z1 := hb2.cell 1;have z2 := hb2.cell 2;have z3 := hb2.cell 3;have z4 := hb2.cell 4;have z5 := hb2.cell 5;have z6 := hb2.cell 6;have z7 := hb2.cell 7;have z8 := hb2.cell 8;have z9 := hb2.cell 9;have z10 := hb2.cell 10;have z11 := hb2.cell 11;have z12 := hb2.cell 12;have z13 := hb2.cell 13;have HM2 := Lib.hid hsm;have HU2 := Lib.hid hus
      clear hcells hbx hsm hus hb2 hown
      go_wp2_with (at_builtin; refine wpList_app rfl rfl T_rules rfl (hown2.alloc _) rfl (Sl.new _ _ _) rfl (by simp [Value.oneCell']) (by simp only [maxLen]; omega) (by omega) ?_; intro A4 c4 w4 ho4 hu4 hat4)
      have HN : Hid (PaS w w4 w2.heap.size (w2.heap.size + 1) A c LT y2 A4 c4 (Q ++ [rl])) := HS.out.app HRK.out hmw HOA.out HCS.out HM2.out HU2.out (Upd.refl.alloc _) ho4 hu4 hat4
      have hfu := HRD.out.1;clear z0 z1 z2 z3 z4 z5 z6 z7 z8 z9 z10 z11 z12 z13 ho4 hu4 hat4 hst k0 HCS hown2
      go_roundg (fu - 1)
      case measure => rw [Hfu.out]; omega
      case rel => exact ⟨fu - 1, y2, A4, c4, Q ++ [rl], rfl, by rw [List.length_append]; rfl, HN, HG, HL, by rw [List.length_append, List.length_singleton]; omega⟩
def axTx (x : Bs × Bs) : Bs := [114, 117, 108, 101, 32] ++ x.1 ++ [58, 32] ++ x.2 ++ [59]
theorem axiomF_eq (s : Bs) : axiomF s = match axL.find? (fun x => decide (x.1 = s)) with
  | none => none
  | some x => match parseG (fun _ => none) (axTx x) with
   | .ok [r] => some r
   | _ => none := by
 unfold axiomF axText
 cases h : axL.find? (fun x => decide (x.1 = s)) with
 | none => rfl
 | some x =>
  have := List.find?_some h;simp only [decide_eq_true_eq] at this;subst this;rfl
def szB (r : Rl) : Bool := decide (r.l.size ≤ 1000000000000) && decide (r.r.size ≤ 1000000000000) && decide (r.conds.length ≤ 1000000000000) && decide (r.name.size ≤ 1000000000000000)
theorem ax_all : axL.all (fun x => match parseG (fun _ => none) (axTx x) with | .ok [r] => szB r | _ => false) = true := by decide +kernel
theorem ax_tok : axL.all (fun x => (goodT (toksF (axTx x))).all (fun t => !decide (t.1 = [97, 120, 105, 111, 109]))) = true := by decide +kernel
theorem ax_parse {x : Bs × Bs} (h : x ∈ axL) : ∃ r, parseG (fun _ => none) (axTx x) = .ok [r] ∧ RlSz r := by
 have h1 := List.all_eq_true.1 ax_all x h
 split at h1
 ·
  rename_i r he;simp only [szB, Bool.and_eq_true, decide_eq_true_eq] at h1;exact ⟨r, he, h1.1.1.1, h1.1.1.2, h1.1.2, h1.2⟩
 ·
  cases h1
theorem ax_none {x : Bs × Bs} (h : x ∈ axL) : ¬ ∃ i, tkF (goodT (toksF (axTx x))) i = some [97, 120, 105, 111, 109] := by
 rintro ⟨i, hi⟩;have h1 := List.all_eq_true.1 ax_tok x h;have hl := tkF_lt hi;unfold tkF at hi;rw [List.getElem?_eq_getElem hl] at hi;have h2 := List.all_eq_true.1 h1 _ (List.getElem_mem hl);simp only [Option.map_some, Option.some.injEq] at hi;rw [hi] at h2;exact absurd h2 (by decide)
theorem ax_len : axL.all (fun x => decide (x.1.length ≤ 1000) && decide (x.2.length ≤ 1000)) = true := by decide +kernel
theorem ax_size {x : Bs × Bs} (h : x ∈ axL) : (kstr x.1).size ≤ 1000 ∧ (kstr x.2).size ≤ 1000 := by
 have h1 := List.all_eq_true.1 ax_len x h;simp only [Bool.and_eq_true, decide_eq_true_eq] at h1;rw [← kx_len, ← kx_len, kx_kstr, kx_kstr];exact h1
theorem axiomF_sz (s : Bs) (r : Rl) (h : axiomF s = some r) : RlSz r := by
 rw [axiomF_eq] at h
 split at h
 ·
  cases h
 ·
  rename_i x hx;obtain ⟨r2, h1, h2⟩ := ax_parse (List.mem_of_find?_eq_some hx);rw [h1] at h
  injection h with h
  subst h;exact h2
theorem find_take {x : Bs × Bs} {s : Bs} {l : List (Bs × Bs)} (hn : ∀ y ∈ l, ¬ y.1 = s) (hx : x.1 = s) (r : List (Bs × Bs)) : (l ++ x :: r).find? (fun x => decide (x.1 = s)) = some x := by
 rw [List.find?_append]
 have : l.find? (fun x => decide (x.1 = s)) = none := by
  rw [List.find?_eq_none];intro y hy
  simpa using hn y hy
 rw [this, List.find?_cons_of_pos (by simpa using hx)];rfl
def axCs : List Value := axL.flatMap fun x => [.string (kstr x.1), .string (kstr x.2)]
theorem axCs_get {i : Nat} (h : i < axL.length) : axCs[i * 2]? = some (.string (kstr axL[i].1)) ∧ axCs[i * 2 + 1]? = some (.string (kstr axL[i].2)) := by
 have : ∀ (l : List (Bs × Bs)) (i : Nat) (h : i < l.length), (l.flatMap fun x => [Value.string (kstr x.1), Value.string (kstr x.2)])[i * 2]? = some (.string (kstr l[i].1)) ∧ (l.flatMap fun x => [Value.string (kstr x.1), Value.string (kstr x.2)])[i * 2 + 1]? = some (.string (kstr l[i].2)) := by
  intro l
  induction l with
  | nil => intro i h; simp at h
  | cons x l ih =>
   intro i h
   cases i with
   | zero => exact ⟨rfl, rfl⟩
   | succ i =>
    have := ih i (by simpa using h);rw [show (i + 1) * 2 = i * 2 + 1 + 1 by omega];exact this
 exact this axL i h
end Go.Proofs.YtblkgjdhaibhgaaGreat
namespace Go.Proofs.YtblkgjdhaibhgaaGreat
open Go.RowKit
set_option maxRecDepth 100000 in
theorem raxioms_c (w : World) : Calls Tryz.prog 39 #[] w fun e w' => e = .returned (.slice (some ⟨w.heap.size, 0, none⟩) 22 22) ∧ Blk w' w.heap.size 82 axCs.toArray ∧ Upd Non w w' := by
 go_enter Tryz.func39, Tryz.ntmps39
 go_wp2_with fail
 go_ret;exact ⟨rfl, Blk.new _ _ _, Upd.refl.alloc _⟩
end Go.Proofs.YtblkgjdhaibhgaaGreat
namespace Go.Proofs.YtblkgjdhaibhgaaGreat
open Go.RowKit
set_option maxRecDepth 100000 in
set_option maxHeartbeats 1000000 in
theorem rAxiom_c (s : Bs) (w : World) : Calls Tryz.prog 18 #[.string (kstr s)] w (AxP axiomF s w) := by
 have HX : Hid (axiomF s = match axL.find? (fun x => decide (x.1 = s)) with
  | none => none
  | some x => match parseG (fun _ => none) (axTx x) with
   | .ok [r] => some r
   | _ => none) := axiomF_eq s
 obtain ⟨W1, HW1⟩ := nm (w.alloc (.cells #[.string ⟨#[]⟩, .int .i64 0, .int .i64 0, .int .i64 0, .int .i64 0, .slice none 0 0, .int .i64 0, .int .i64 0, .int .i64 0, .int .i64 0, .slice none 0 0, .slice none 0 0, .int .i64 0, .int .i64 0] 43))
 have e1 := HW1.out
 have u1 : Upd Non w W1 := by rw [← e1]; exact Upd.refl.alloc _
 have b1 : Blk W1 w.heap.size 43 z14 := by rw [← e1]; exact Blk.new _ _ _
 have s1 : W1.heap.size = w.heap.size + 1 := by rw [← e1]; simp
 have CA := Lib.hid (raxioms_c W1);rw [s1] at CA;obtain ⟨qs, Hqs⟩ := nm (kstr s);rw [Hqs.out];have HB1 := Lib.hid b1;have HU1 := Lib.hid u1;clear u1 b1 s1;go_enter Tryz.func18, Tryz.ntmps18
 go_wp2_with fail
 refine CA.out.mono ?_;rintro e w2 ⟨rfl, hbt, hu2⟩;have HT := Lib.hid hbt;have HB2 := Lib.hid (HB1.out.upd hu2 (fun f => f));have HU2 := Lib.hid (HU1.out.then_non hu2);clear hbt hu2 CA HB1 HU1 e1
 go_wp2_with fail
 go_loopg [5, 6, 7, 10] 22 (fun g _ _ _ iv wr => ∃ j : Nat, Hid (g = 22 - j) ∧ j ≤ 22 ∧ iv = .int .i64 j ∧ Hid (Upd Non w2 wr) ∧ Hid (∀ x ∈ axL.take j, ¬ x.1 = s))
 case atStart => exact ⟨0, rfl, Nat.zero_le _, rfl, Upd.refl, fun x hx => by simp at hx⟩
 case round =>
  obtain ⟨j, Hg, hj, rfl, HU, HN⟩ := hrel;have hb := HT.out.upd HU.out (fun f => f);have hr := HB2.out.upd HU.out (fun f => f);have HR := Lib.hid hr;have hUw := HU2.out.then_non HU.out;have HUW := Lib.hid hUw;clear hUw
  by_cases hlt : j < 22
  ·
   have hal : j < axL.length := hlt;obtain ⟨k0, k1⟩ := axCs_get hal
   have c0 : wr.cell? ⟨w.heap.size + 1, j * 2, none⟩ = some (.string (kstr axL[j].1)) := by rw [hb.cell]; simpa using k0
   have c1 : wr.cell? ⟨w.heap.size + 1, j * 2 + 1, none⟩ = some (.string (kstr axL[j].2)) := by rw [hb.cell]; simpa using k1
   have HM : Hid (axL[j] ∈ axL) := List.getElem_mem hal
   have HDR : Hid (axL = axL.take j ++ axL[j] :: axL.drop (j + 1)) := by
    show axL = _;rw [← List.drop_eq_getElem_cons hal, List.take_append_drop]
   have HTK : Hid (axL.take (j + 1) = axL.take j ++ [axL[j]]) := take_snoc' hal;generalize axL[j] = xx at *;obtain ⟨D, HD⟩ := nm (decide (xx.1 = s))
   have hD : ((kstr xx.1).toList == qs.toList) = D := by rw [← Hqs.out, str_beq, HD.out]
   obtain ⟨qa, Hqa⟩ := nm (kstr xx.1);obtain ⟨qb, Hqb⟩ := nm (kstr xx.2);rw [Hqa.out] at c0 hD;rw [Hqb.out] at c1;clear k0 k1 hb hr
   cases D with
   | false =>
    go_wp2_with fail
    go_roundg (22 - (j + 1))
    case measure => rw [Hg.out]; omega
    case rel =>
     refine ⟨j + 1, rfl, by omega, by go_num, HU.out.then_non (Upd.refl.alloc _), fun y hy => ?_⟩;rw [HTK.out] at hy
     rcases List.mem_append.1 hy with hy | hy
     ·
      exact HN.out y hy
     ·
      rw [List.mem_singleton] at hy; subst hy; exact of_decide_eq_false HD.out
   | true =>
    obtain ⟨rl, hpr, hsz⟩ := ax_parse HM.out;obtain ⟨la, lb⟩ := ax_size HM.out;rw [Hqa.out] at la;rw [Hqb.out] at lb
    have hkx : kx (((({ data := #[114, 117, 108, 101, 32] } : ByteArray) ++ qa) ++ { data := #[58, 32] }) ++ qb ++ { data := #[59] }) = axTx xx := by
     rw [← Hqa.out, ← Hqb.out];simp [kx, kstr, axTx]
    obtain ⟨W3, HW3⟩ := nm (wr.alloc (.cells #[.string qa, .string qb] 82))
    have CP := Lib.hid (rParse_c (fun _ => none) (fun _ _ q => by cases q) (((({ data := #[114, 117, 108, 101, 32] } : ByteArray) ++ qa) ++ { data := #[58, 32] }) ++ qb ++ { data := #[59] }) (fun q => by rw [hkx] at q; exact absurd q (ax_none HM.out)) W3)
    rw [hkx, hpr] at CP;have e3 := HW3.out;have HPR := Lib.hid hpr
    have u3 : Upd Non wr W3 := by rw [← e3]; exact Upd.refl.alloc _
    have HU3 := Lib.hid (HUW.out.then_non u3);have HR3 := Lib.hid (HR.out.upd u3 (fun f => f))
    have b3 : Blk W3 wr.heap.size 82 #[.string qa, .string qb] := by rw [← e3]; exact Blk.new _ _ _
    have z0 := b3.cell 0;have z1 := b3.cell 1;clear hkx hpr u3 hsz b3
    go_wp2_with fail
    refine CP.out.mono ?_;rintro e w4 ⟨hu4, h⟩
    rcases h with ⟨er, h, _⟩ | ⟨Q, A, c, h, rfl, hv, hle⟩
    ·
     cases h
    injection h with h
    subst h;obtain ⟨b, o, a, rfl, _, hb4, hat, hrk⟩ := hv.at_ (i := 0) (by simp);unfold RlAt at hat;rw [List.getElem_cons_zero, Nat.zero_mul, Nat.add_zero] at hat;rw [List.getElem_cons_zero] at hrk;obtain ⟨x0, x1, x2, x3, x4, x5, x6, x7, x8, x9, x10, x11, x12, x13⟩ := hat;have b0 := HR3.out.upd hu4 (fun f => f);have hbl := b0.lt;unfold z14 at b0;have z0 := b0.cell 0;have z1 := b0.cell 1
    have z2 := b0.cell 2;have z3 := b0.cell 3;have z4 := b0.cell 4;have z5 := b0.cell 5;have z6 := b0.cell 6;have z7 := b0.cell 7;have z8 := b0.cell 8;have z9 := b0.cell 9;have z10 := b0.cell 10;have z11 := b0.cell 11;have z12 := b0.cell 12;have z13 := b0.cell 13;have zf := b0.frozen;have HRK := Lib.hid hrk;have HU4 := Lib.hid (HU3.out.then_non hu4);have hle3 := HU3.out.size
    have hlw3 := HR3.out.lt;clear hv hle hrk hu4 CP e3
    go_wp2_with fail
    rw [set14_eq]
    obtain ⟨W8, HW8⟩ := nm (set14 w4 w.heap.size (.string rl.name) (.int .i64 rl.l.v) (.int .i64 rl.l.op) (.int .i64 rl.l.imm) (.int .i64 rl.l.iv) (.slice a.la rl.l.kids.length a.lc) (.int .i64 rl.r.v) (.int .i64 rl.r.op) (.int .i64 rl.r.imm) (.int .i64 rl.r.iv) (.slice a.ra rl.r.kids.length a.rc) (.slice a.ca rl.conds.length a.cc) (.int .i64 rl.vars) (.int .i64 rl.imms))
    rw [HW8.out]
    have us : Upd (· = w.heap.size) w4 W8 := by rw [← HW8.out]; exact set14_upd _ _ _ _ _ _ _ _ _ _ _ _ _ _ _ _
    have b5 : Blk W8 w.heap.size 43 (rlCells rl a) := by rw [← HW8.out]; exact set14_blk b0 _ _ _ _ _ _ _ _ _ _ _ _ _ _
    have ua : Upd Non W8 (W8.alloc (.cells #[.int .i64 0, .int .i64 0] 31)) := Upd.refl.alloc _;refine bodyPost_ret (results_cell_row_tmp rfl _ _ w.heap.size 43 _ (0, 0) _ rfl (b5.upd ua (fun f => f)) Tryz.underlying43 rfl (by kernel_rfl)) rfl ?_;refine ⟨rl, a, true, rfl, ?_, (HU4.out.trans us (fun k hk e => by omega)).then_non ua, fun _ => ?_, fun q => (by cases q)⟩
    ·
     exact ((HRK.out.upd us (fun k _ q e => by have := q; omega)).upd ua (fun _ _ _ f => f)).mono (fun k _ q => Nat.le_trans hle3 q)
    ·
     rw [HX.out, HDR.out, find_take HN.out (of_decide_eq_true HD.out)];dsimp only;rw [HPR.out]
  ·
   obtain rfl : j = 22 := by omega
   clear hb;unfold z14 at hr;have z0 := hr.cell 0;have z1 := hr.cell 1;have z2 := hr.cell 2;have z3 := hr.cell 3;have z4 := hr.cell 4;have z5 := hr.cell 5;have z6 := hr.cell 6;have z7 := hr.cell 7;have z8 := hr.cell 8;have z9 := hr.cell 9;have z10 := hr.cell 10;have z11 := hr.cell 11;have z12 := hr.cell 12;have z13 := hr.cell 13;have zf := hr.frozen
   go_wp2_with fail
   rw [set14_eq]
   have us := set14_upd wr w.heap.size (.string ⟨#[]⟩) (.int .i64 0) (.int .i64 0) (.int .i64 0) (.int .i64 0) (.slice none 0 0) (.int .i64 0) (.int .i64 0) (.int .i64 0) (.int .i64 0) (.slice none 0 0) (.slice none 0 0) (.int .i64 0) (.int .i64 0)
   have b5 := set14_blk HR.out (.string ⟨#[]⟩) (.int .i64 0) (.int .i64 0) (.int .i64 0) (.int .i64 0) (.slice none 0 0) (.int .i64 0) (.int .i64 0) (.int .i64 0) (.int .i64 0) (.slice none 0 0) (.slice none 0 0) (.int .i64 0) (.int .i64 0)
   refine bodyPost_ret (results_cell_row_tmp rfl _ _ w.heap.size 43 _ (0, 0) _ rfl b5 Tryz.underlying43 rfl (by kernel_rfl)) rfl ?_
   refine ⟨⟨⟨#[]⟩, .mk 0 0 0 0 [], .mk 0 0 0 0 [], [], 0, 0⟩, ⟨none, 0, none, 0, none, 0⟩, false, rfl, ⟨PtK.leaf, PtK.leaf, CondsV.nil, Nat.le_refl _⟩, HUW.out.trans us (fun k hk e => by omega), fun q => (by cases q), fun _ => ?_⟩
   rw [HX.out, List.find?_eq_none.2];intro y hy
   simpa using HN.out y (by rw [List.take_of_length_le (show axL.length ≤ 22 from Nat.le_refl _)]; exact hy)
theorem bstr_k (ns : List Int) : bstr ns = kstr (ns.map fun n => UInt8.ofNat n.toNat) := rfl
set_option maxRecDepth 100000 in
theorem rImmName_c (n : Int) (h0 : 0 < n) (h1 : n ≤ 100) (w : World) : Calls Tryz.prog 73 #[.int .i64 n] w fun e w' => e = .returned (.string (kstr (inF n))) ∧ Upd Non w w' := by
 have hc := run_str (P := Tryz.prog) (src := 57) (dst := 9) Tryz.underlying57 Tryz.underlying5 Tryz.underlying9 (ns := [107 + n - 1]) (c := 1) (Sl.new w 5 [.int .u8 (107 + n - 1)]) (n := 1) rfl
 have HE : Hid (bstr [107 + n - 1] = kstr (inF n)) := by
  show bstr _ = _;rw [bstr_k];unfold inF
  rw [show [107 + n - 1].map (fun n => UInt8.ofNat n.toNat) = [UInt8.ofNat (106 + n.toNat)] by show [UInt8.ofNat (107 + n - 1).toNat] = _; rw [show (107 + n - 1).toNat = 106 + n.toNat by omega]]
 obtain ⟨s, Hs⟩ := nm (bstr [107 + n - 1]);rw [Hs.out] at hc HE;rw [← HE.out];clear Hs HE;go_enter Tryz.func73, Tryz.ntmps73
 go_wp2_with fail
 go_ret;exact ⟨rfl, Upd.refl.alloc _⟩
set_option maxRecDepth 100000 in
theorem rVarName_c (n : Int) (h0 : 0 < n) (h1 : n ≤ 100) (w : World) : Calls Tryz.prog 72 #[.int .i64 n] w fun e w' => e = .returned (.string (kstr (vnF n))) ∧ Upd Non w w' := by
 have hc := run_str (P := Tryz.prog) (src := 57) (dst := 9) Tryz.underlying57 Tryz.underlying5 Tryz.underlying9 (ns := [97 + n - 1]) (c := 1) (Sl.new w 5 [.int .u8 (97 + n - 1)]) (n := 1) rfl
 have HE : Hid (({ data := #[63] } : ByteArray) ++ bstr [97 + n - 1] = kstr (vnF n)) := by
  show _ ++ bstr _ = _;rw [bstr_k];unfold vnF
  rw [show [97 + n - 1].map (fun n => UInt8.ofNat n.toNat) = [UInt8.ofNat (96 + n.toNat)] by show [UInt8.ofNat (97 + n - 1).toNat] = _; rw [show (97 + n - 1).toNat = 96 + n.toNat by omega]]
  exact kstr_app [63] _
 have hsz : (bstr [97 + n - 1]).size = 1 := by simp [bstr, ByteArray.size]
 obtain ⟨s, Hs⟩ := nm (bstr [97 + n - 1]);rw [Hs.out] at hc HE hsz;rw [← HE.out];clear Hs HE;go_enter Tryz.func72, Tryz.ntmps72
 go_wp2_with fail
 go_ret;exact ⟨rfl, Upd.refl.alloc _⟩
theorem slice20 (g i : Nat) (hi : i < 20) (W : World) : (Instr.sliceAt 140 (.pointer (some ⟨g, 0, none⟩)) (some (.int .i64 i)) none none).run Tryz.prog W = .ok (.slice (some ⟨g, i, none⟩) (20 - i) (20 - i)) W := by
 have hal : Tryz.prog.arrayLen 140 = 20 := by kernel_rfl
 have hel : Tryz.prog.elem 140 = 5 := by kernel_rfl
 have ht : Tryz.prog.underlying 140 = some (.array (Tryz.prog.arrayLen 140) (Tryz.prog.elem 140)) := by rw [hal, hel]; exact Tryz.underlying140
 have hsz : (sizeOf 5).run Tryz.prog W = .ok 1 W := by
  have h : (Tryz.prog.info? 5).map (·.size) = some 1 := by kernel_rfl
  cases hi : Tryz.prog.info? 5 with
  | none => rw [hi] at h; cases h
  | some i => rw [hi] at h; simp at h; simp [sizeOf, typeInfo, hi, h]
 rw [run_sliceAt_array_l W 140 ⟨g, 0, none⟩ ht .i64 i (by omega) (by rw [hal]; omega), hal, hel, hsz]
 have hne : ¬ 20 = i := by omega
 simp [slicedAt, Result.andThen, hne, Addr.add_lit]
theorem bstr_ub (L : Bs) : bstr (L.map fun b => (b.toNat : Int)) = kstr L := by
 rw [bstr_k, List.map_map]
 congr 1
 have : ((fun n : Int => UInt8.ofNat n.toNat) ∘ fun b : UInt8 => (b.toNat : Int)) = id := by funext b; simp
 rw [this, List.map_id]
def ub (b : UInt8) : Value := .int .u8 b.toNat
theorem Sl.drop_ {W : World} {g i : Nat} {t : TypeId} {cs : Array Value} {L : Bs} (hb : Blk W g t cs) (h : cs.toList.drop i = L.map ub) : Sl W (fun _ => True) (some ⟨g, i, none⟩) ((L.map fun b => (b.toNat : Int)).map fun x => .int .u8 x) := by
 refine .inr ⟨_, _, rfl, trivial, fun k hk => ?_⟩
 have hk2 : k < L.length := by simpa using hk
 rw [hb.cell]
 have h1 : cs[i + k]? = (cs.toList.drop i)[k]? := by rw [List.getElem?_drop]; simp
 rw [h1, h];simp [ub, hk2]
set_option maxRecDepth 100000 in
set_option maxHeartbeats 1000000 in
theorem wDigits_c (n : Nat) (hn : n ≤ 18446744073709551615) (w : World) : Calls Tryz.prog 102 #[.int .u64 n] w fun e w' => e = .returned (.string (kstr (decD n))) ∧ Upd Non w w' := by
 go_enter Tryz.func102, Tryz.ntmps102
 go_wp2_with fail
 go_loopg [0, 4] 20 (fun g nv av wr => ∃ (j m : Nat) (suf : Bs) (cs : Array Value), Hid (g = j) ∧ 1 ≤ j ∧ j ≤ 20 ∧ nv = .int .u64 m ∧ av = .int .i64 j ∧ Hid (Blk wr w.heap.size 140 cs) ∧ cs.size = 20 ∧ Hid (cs.toList.drop j = suf.map ub) ∧ Hid (decD n = decD m ++ suf) ∧ m ≤ 18446744073709551615 ∧ Hid (m < 10 ^ j) ∧ Hid (j = 20 ∨ 0 < m) ∧ Hid (Upd Non w wr))
 case atStart => exact ⟨20, n, [], _, rfl, by omega, by omega, rfl, rfl, Blk.new _ _ _, rfl, rfl, by show _ = _; rw [List.append_nil], hn, by show n < 10 ^ 20; omega, .inl rfl, Upd.refl.alloc _⟩
 case round =>
  obtain ⟨j, m, suf, cs, Hg, hj1, hj2, rfl, rfl, Hb, hcs, HD, HN, hm64, HM, HZ, HU⟩ := hrel;obtain ⟨i, rfl⟩ : ∃ i, j = i + 1 := ⟨j - 1, by omega⟩
  have hil : i < cs.size := by omega
  have ci := Hb.out.cell i;rw [Array.getElem?_eq_getElem hil] at ci;have cf := Hb.out.frozen i;obtain ⟨old, Hold⟩ := nm cs[i];rw [Hold.out] at ci;obtain ⟨W, HW⟩ := nm (wr.setCell ⟨w.heap.size, i, none⟩ (.int .u8 (48 + (m : Int) % 10)));have e1 := HW.out
  have hb2 : Blk W w.heap.size 140 (cs.setIfInBounds i (.int .u8 (48 + (m : Int) % 10))) := by rw [← e1]; exact Hb.out.set_ i _
  have hu2 : Upd Non w W := by rw [← e1]; exact HU.out.trans (updCell _ _ _ _) (fun k hk e => by omega)
  have hd2 : (cs.setIfInBounds i (.int .u8 (48 + (m : Int) % 10))).toList.drop i = (UInt8.ofNat (48 + m % 10) :: suf).map ub := by
   have h1 : i < cs.toList.length := by simpa using hil
   rw [Array.toList_setIfInBounds, List.drop_set, if_neg (by omega), Nat.sub_self, List.drop_eq_getElem_cons h1, HD.out];simp only [List.set_cons_zero, List.map_cons, ub]
   congr 2
   simp;omega
  have HB2 := Lib.hid hb2;have HU2 := Lib.hid hu2;have HD2 := Lib.hid hd2;have hsl := slice20 w.heap.size i (by omega) W
  have hcv := run_str (P := Tryz.prog) (w := W) (F := fun _ => True) (src := 57) (dst := 9) Tryz.underlying57 Tryz.underlying5 Tryz.underlying9 (A := some ⟨w.heap.size, i, none⟩) (n := 20 - i) (c := 20 - i) (ns := (UInt8.ofNat (48 + m % 10) :: suf).map fun b => (b.toNat : Int))
   (Sl.drop_ hb2 hd2) (by
    have := congrArg List.length hd2;simp only [List.length_drop, Array.length_toList, Array.size_setIfInBounds, List.length_map] at this;simp only [List.length_map]
    omega)
  rw [bstr_ub] at hcv;clear hb2 hu2 hd2
  by_cases hm : m < 10
  ·
   have tq : ((m : Int) / 10 == 0) = true := by simp; omega
   obtain ⟨str, Hstr⟩ := nm (kstr (UInt8.ofNat (48 + m % 10) :: suf));rw [Hstr.out] at hcv
   go_wp2_with fail
   go_ret;refine ⟨?_, HU2.out⟩;rw [HN.out, decD_lt hm, ← Hstr.out, Nat.mod_eq_of_lt hm];rfl
  ·
   have tq : ((m : Int) / 10 == 0) = false := by simp; omega
   clear hsl hcv
   go_wp2_with fail
   go_roundg i
   case measure => rw [Hg.out]; omega
   case rel =>
    have hmn : m / 10 < 10 ^ i := by rw [Nat.div_lt_iff_lt_mul (by decide)]; have := HM.out; rw [Nat.pow_succ] at this; exact this
    refine ⟨i, m / 10, UInt8.ofNat (48 + m % 10) :: suf, _, rfl, ?_, by omega, by go_num, rfl, HB2.out, by simpa using hcs, HD2.out, ?_, by omega, hmn, .inr (by omega), HU2.out⟩
    ·
     rcases Nat.eq_zero_or_pos i with q | q
     ·
      subst q; simp at hmn; omega
     ·
      exact q
    ·
     show decD n = _;rw [HN.out, decD_ge hm (by omega), List.append_assoc];rfl
set_option maxRecDepth 100000 in
theorem wText_c (n : Int) (h0 : -9223372036854775808 ≤ n) (h1 : n ≤ 9223372036854775807) (w : World) : Calls Tryz.prog 74 #[.int .i64 n] w fun e w' => e = .returned (.string (kstr (textF n))) ∧ Upd Non w w' := by
 have C := Lib.hid (wDigits_c n.natAbs (by omega) w)
 have HL : Hid ((kstr (decD n.natAbs)).size ≤ 20) := by
  show _ ≤ _;rw [← kx_len, kx_kstr];exact decD_len _
 have HE : Hid (kstr (textF n) = if n < 0 then ({ data := #[45] } : ByteArray) ++ kstr (decD n.natAbs) else kstr (decD n.natAbs)) := by
  show _ = _;unfold textF
  split
  ·
   exact (kstr_app [45] _).symm
  ·
   rfl
 obtain ⟨s, Hs⟩ := nm (kstr (decD n.natAbs));obtain ⟨t, Ht⟩ := nm (kstr (textF n));rw [Hs.out] at C HL HE;rw [Ht.out] at HE ⊢;have hl := HL.out
 by_cases hn : n < 0
 ·
  have t0 : decide (n < 0) = true := decide_eq_true hn
  have HR : Hid (t = ({ data := #[45] } : ByteArray) ++ s) := by show _ = _; rw [HE.out, if_pos hn]
  rw [show ((n.natAbs : Nat) : Int) = -n by omega] at C;clear HE HL Hs Ht;go_enter Tryz.func74, Tryz.ntmps74
  have hw : IntKind.u64.wrap (-IntKind.u64.wrap n) = -n := by
   simp [IntKind.wrap, IntKind.bits, IntKind.signed];omega
  go_wp2_with fail
  refine C.out.mono ?_;rintro e w2 ⟨rfl, hu⟩;clear C hw
  go_wp2_with fail
  go_ret;exact ⟨by rw [HR.out]; rfl, hu⟩
 ·
  have t0 : decide (n < 0) = false := decide_eq_false hn
  have HR : Hid (t = s) := by show _ = _; rw [HE.out, if_neg hn]
  rw [show ((n.natAbs : Nat) : Int) = n by omega] at C;clear HE HL Hs Ht;go_enter Tryz.func74, Tryz.ntmps74
  go_wp2_with fail
  refine C.out.mono ?_;rintro e w2 ⟨rfl, hu⟩;clear C
  go_wp2_with fail
  go_ret;exact ⟨by rw [HR.out]; rfl, hu⟩
set_option maxRecDepth 100000 in
theorem tName_c (op : Int) (h0 : 4 ≤ op) (h1 : op < 32) (w : World) : Calls Tryz.prog 75 #[.int .i64 op] w fun e w' => e = .returned (.tuple #[.string (kstr (opNm op)), .bool true]) ∧ Upd Non w w' := by
 have C := Lib.hid (tnames_c w);obtain ⟨k, rfl⟩ : ∃ k : Nat, op = 4 + k := ⟨(op - 4).toNat, by omega⟩
 have hk : k < 28 := by omega
 have hkl : k < nameL.length := hk
 have HN : Hid (opNm (4 + (k : Int)) = nameL[k]) := by
  show _ = _;unfold opNm;rw [show (4 + (k : Int) - 4).toNat = k by omega, List.getD, List.getElem?_eq_getElem hkl, Option.getD_some]
 rw [HN.out];obtain ⟨nk, Hnk⟩ := nm (kstr nameL[k]);rw [Hnk.out];have td : decide (28 ≤ (k : Int)) = false := decide_eq_false (by omega);have t1 : decide (4 + (k : Int) < 4) = false := decide_eq_false (by omega)
 have t3 : 4 + (k : Int) - 4 = (k : Int) := by omega
 clear HN h0 h1;go_enter Tryz.func75, Tryz.ntmps75
 go_wp2_with fail
 refine C.out.mono ?_;rintro e W ⟨rfl, hs, hu⟩;obtain ⟨b, o, e, _, _, hc⟩ := hs.at_ (k := k) (by simpa [sCells] using hkl)
 injection e with e
 injection e with e1 e2
 subst e1 e2
 have hc2 : W.cell? ⟨w.heap.size, k, none⟩ = some (.string (kstr nameL[k])) := by rw [Nat.zero_add] at hc; rw [hc]; simp [sCells]
 rw [Hnk.out] at hc2;clear C hs hc
 go_wp2_with fail
 go_ret2;exact ⟨rfl, hu⟩
theorem fmt_eq (p : Pt) : fmtF p = if 0 < p.v then vnF p.v else if p.op = 1 then (if 0 < p.iv then 36 :: inF p.iv else textF p.imm)
  else [40] ++ opNm p.op ++ (if 0 < p.iv then 46 :: inF p.iv else if immOp p.op = true then 46 :: textF p.imm else []) ++ fmtL p.kids ++ [41] := by
 cases p
 rw [fmtF];rfl
theorem FmOk.inv {p : Pt} (h : FmOk p) : (0 < p.v ∧ p.v ≤ 100) ∨ (¬ 0 < p.v ∧ p.op = 1 ∧ -9223372036854775808 ≤ p.imm ∧ p.imm ≤ 9223372036854775807 ∧ p.iv ≤ 100) ∨ (¬ 0 < p.v ∧ 4 ≤ p.op ∧ p.op < 32 ∧ -9223372036854775808 ≤ p.imm ∧ p.imm ≤ 9223372036854775807 ∧ p.iv ≤ 100 ∧ ∀ k ∈ p.kids, FmOk k) := by
 cases h with
 | var h1 h2 => exact .inl ⟨h1, h2⟩
 | cst h1 h2 h3 h4 => exact .inr (.inl ⟨h1, rfl, h2, h3, h4⟩)
 | app h1 h2 h3 h4 h5 h6 h7 => exact .inr (.inr ⟨h1, h2, h3, h4, h5, h6, h7⟩)
theorem ksz {L : Bs} {n : Nat} (h : L.length ≤ n) : (kstr L).size ≤ n := by rw [← kx_len, kx_kstr]; exact h
set_option maxRecDepth 100000 in
set_option maxHeartbeats 2000000 in
theorem rFormat_c (p : Pt) : ∀ (w : World) (F : Nat → Prop) (KA : Option Addr) (kc : Nat), PtK w F p KA kc → FmOk p → p.size ≤ 1000000000000 →
  Calls Tryz.prog 32 #[pv p KA kc] w fun e w' => e = .returned (.string (kstr (fmtF p))) ∧ Upd Non w w' := by
 induction p using Pt.ind with
 | h p ih =>
  intro w F KA kc hp hok hs;have hse := Pt.size_eq p;have hle := Pt.len_le p.kids;have HI := Lib.hid ih;obtain ⟨W, HW⟩ := nm (w.alloc (.cells #[.int .i64 p.v, .int .i64 p.op, .int .i64 p.imm, .int .i64 p.iv, .slice KA p.kids.length kc] 40))
  have hU : Upd Non w W := by rw [← HW.out]; exact Upd.refl.alloc _
  have hb : Blk W w.heap.size 40 #[.int .i64 p.v, .int .i64 p.op, .int .i64 p.imm, .int .i64 p.iv, .slice KA p.kids.length kc] := by rw [← HW.out]; exact Blk.new _ _ _
  have e0 := HW.out;have c0 := hb.cell 0;have c1 := hb.cell 1;have c2 := hb.cell 2;have c3 := hb.cell 3;have HB := Lib.hid hb;have HF := Lib.hid (fmt_eq p);have HLN := Lib.hid (fmtF_len p hok);obtain ⟨res, Hres⟩ := nm (fmtF p);rw [Hres.out] at HF HLN ⊢;have hpW := PtK.upd hU (fun _ _ _ f => f) p KA kc hp;have HPW := Lib.hid hpW;have HS := Lib.hid hse;have HU := Lib.hid hU;unfold pv
  clear ih hse hp hb hpW hU
  rcases hok.inv with ⟨a1, a2⟩ | ⟨a1, a2, a3, a4, a5⟩ | ⟨a1, a2, a3, a4, a5, a6, a7⟩
  ·
   have tv : decide (0 < p.v) = true := decide_eq_true a1
   have HR : Hid (res = vnF p.v) := by show _ = _; rw [HF.out, if_pos a1]
   have CV := Lib.hid (fun W => rVarName_c p.v a1 a2 W);rw [HR.out];clear a1 a2 hok hle;obtain ⟨v, Hv⟩ := nm p.v;rw [Hv.out] at c0 tv e0 CV ⊢;clear c1 c2 c3;go_enter Tryz.func32, Tryz.ntmps32
   go_wp2_with fail
   refine (CV.out _).mono ?_;rintro e w2 ⟨rfl, hu⟩;clear CV e0
   go_wp2_with fail
   go_ret;exact ⟨rfl, HU.out.then_non hu⟩
  ·
   have tv : decide (0 < p.v) = false := decide_eq_false a1
   by_cases hi : 0 < p.iv
   ·
    have ti : decide (0 < p.iv) = true := decide_eq_true hi
    have HR : Hid (res = 36 :: inF p.iv) := by show _ = _; rw [HF.out, if_neg a1, if_pos a2, if_pos hi]
    have CV := Lib.hid (fun W => rImmName_c p.iv hi a5 W);have hz : (kstr (inF p.iv)).size ≤ 1 := ksz (Nat.le_refl _)
    have HA : Hid (({ data := #[36] } : ByteArray) ++ kstr (inF p.iv) = kstr res) := by show _ = _; rw [HR.out]; exact kstr_app [36] _
    rw [a2] at c1 e0;obtain ⟨str, Hstr⟩ := nm (kstr (inF p.iv));rw [Hstr.out] at CV HA hz;rw [a2];clear a1 a2 a3 a4 a5 hok hle HF hi;obtain ⟨v, Hv⟩ := nm p.v;obtain ⟨iv, Hiv⟩ := nm p.iv;rw [Hv.out, Hiv.out] at e0;rw [Hv.out] at c0 tv;rw [Hiv.out] at c3 ti CV;rw [Hv.out, Hiv.out];clear c2;go_enter Tryz.func32, Tryz.ntmps32
    go_wp2_with fail
    refine (CV.out _).mono ?_;rintro e w2 ⟨rfl, hu⟩;clear CV e0
    go_wp2_with fail
    go_ret;exact ⟨by rw [← HA.out]; rfl, HU.out.then_non hu⟩
   ·
    have ti : decide (0 < p.iv) = false := decide_eq_false hi
    have HR : Hid (res = textF p.imm) := by show _ = _; rw [HF.out, if_neg a1, if_pos a2, if_neg hi]
    have CV := Lib.hid (fun W => wText_c p.imm a3 a4 W);rw [HR.out];rw [a2] at c1 e0;rw [a2];clear a1 a2 a3 a4 a5 hok hle HF hi;obtain ⟨v, Hv⟩ := nm p.v;obtain ⟨iv, Hiv⟩ := nm p.iv;obtain ⟨imm, Himm⟩ := nm p.imm;rw [Hv.out, Hiv.out, Himm.out] at e0;rw [Hv.out] at c0 tv;rw [Hiv.out] at c3 ti;rw [Himm.out] at c2 CV;rw [Hv.out, Hiv.out, Himm.out];go_enter Tryz.func32, Tryz.ntmps32
    go_wp2_with fail
    refine (CV.out _).mono ?_;rintro e w2 ⟨rfl, hu⟩;clear CV e0
    go_wp2_with fail
    go_ret;exact ⟨rfl, HU.out.then_non hu⟩
  ·
   have tv : decide (0 < p.v) = false := decide_eq_false a1
   have tp1 : (p.op == 1) = false := by simp; omega
   have HR : Hid (res = [40] ++ opNm p.op ++ (if 0 < p.iv then 46 :: inF p.iv else if immOp p.op = true then 46 :: textF p.imm else []) ++ fmtL p.kids ++ [41]) := by show _ = _; rw [HF.out, if_neg a1, if_neg (by omega)]
   have HBD := Lib.hid hok;obtain ⟨suf, Hsuf⟩ := nm (if 0 < p.iv then 46 :: inF p.iv else if immOp p.op = true then 46 :: textF p.imm else ([] : Bs))
   have hsufl : suf.length ≤ 22 := by
    rw [← Hsuf.out];have := textF_len ⟨a4, a5⟩
    split
    ·
     simp [inF]
    ·
     split <;> simp <;> omega
   rw [Hsuf.out] at HR;have hnl := opNm_len p.op;have CN := Lib.hid (tName_c p.op a2 a3 W);obtain ⟨nmb, Hnmb⟩ := nm (opNm p.op);rw [Hnmb.out] at HR hnl CN;have hz : (kstr nmb).size ≤ 5 := ksz hnl;have H5 : Hid (({ data := #[40] } : ByteArray) ++ kstr nmb = kstr ([40] ++ nmb)) := kstr_app [40] nmb;obtain ⟨ns, Hns⟩ := nm (kstr nmb);rw [Hns.out] at CN hz H5
   have hz5 : (kstr ([40] ++ nmb)).size ≤ 6 := ksz (by simp; omega);obtain ⟨s5, Hs5⟩ := nm (kstr ([40] ++ nmb));rw [Hs5.out] at H5 hz5;have hk := HBD.out;have HKS : Hid (∀ k ∈ p.kids, FmOk k) := a7;have HIM : Hid (-9223372036854775808 ≤ p.imm ∧ p.imm ≤ 9223372036854775807 ∧ p.iv ≤ 100) := ⟨a4, a5, a6⟩;have CI := Lib.hid (fun (h : 0 < p.iv) W => rImmName_c p.iv h a6 W)
   have CT := Lib.hid (fun W => wText_c p.imm a4 a5 W);have CH := Lib.hid (fun W => rHasImm_c p.op W);have HSP : Hid (suf = if 0 < p.iv then 46 :: inF p.iv else if immOp p.op = true then 46 :: textF p.imm else ([] : Bs)) := Hsuf.out.symm
   have hpo : p.op ≠ 1 := by omega
   clear a1 a2 a3 a4 a5 a6 a7 hok hk HF Hsuf;obtain ⟨v, Hv⟩ := nm p.v;obtain ⟨iv, Hiv⟩ := nm p.iv;obtain ⟨imm, Himm⟩ := nm p.imm;obtain ⟨op, Hop⟩ := nm p.op;obtain ⟨n, Hn⟩ := nm p.kids.length;rw [Hv.out, Hiv.out, Himm.out, Hop.out, Hn.out] at e0;rw [Hv.out] at c0 tv;rw [Hiv.out] at c3 CI;rw [Hop.out] at c1 tp1 CN CH;rw [Himm.out] at c2 CT;rw [Hiv.out, Himm.out, Hop.out] at HSP
   rw [Hn.out] at hle;rw [Hv.out, Hiv.out, Himm.out, Hop.out, Hn.out]
   have hn12 : n ≤ 1000000000000 := by have := HS.out; omega
   clear hpo;go_enter Tryz.func32, Tryz.ntmps32
   go_wp2_with fail
   refine CN.out.mono ?_;rintro e w2 ⟨rfl, hu2⟩;have d2 := cell_upd c2 hu2 (fun f => f);have d3 := cell_upd c3 hu2 (fun f => f);have d1 := cell_upd c1 hu2 (fun f => f);have h5 := H5.out;clear CN e0 c0 c1 c2 c3;obtain ⟨D, HD⟩ := nm (decide (0 < iv));have tD := HD.out
   go_upto_if 45 with fail
   clear tD
   go_cut [5] (fun s wx => s = .string (kstr ([40] ++ nmb ++ suf)) ∧ Upd Non W wx)
   case first =>
    cases D with
    | true =>
     have hi : 0 < iv := of_decide_eq_true HD.out;have CII := Lib.hid (CI.out hi)
     have HSF : Hid (suf = 46 :: inF iv) := by show _ = _; rw [HSP.out, if_pos hi]
     have hzi : (kstr (inF iv)).size ≤ 1 := ksz (Nat.le_refl _)
     have HE : Hid (s5 ++ (({ data := #[46] } : ByteArray) ++ kstr (inF iv)) = kstr ([40] ++ nmb ++ suf)) := by
      show _ = _;rw [← Hs5.out, HSF.out, show ({ data := #[46] } : ByteArray) ++ kstr (inF iv) = kstr (46 :: inF iv) from kstr_app [46] _, kstr_app]
     obtain ⟨im, Him⟩ := nm (kstr (inF iv));rw [Him.out] at CII hzi HE;clear hi
     go_wp2_with fail
     refine (CII.out _).mono ?_;rintro e w3 ⟨rfl, hu3⟩;clear CII
     go_wp2_with fail
     go_meet
     case rel => exact ⟨by rw [← HE.out], hu2.then_non hu3⟩
    | false =>
     have hi : ¬ 0 < iv := of_decide_eq_false HD.out;obtain ⟨hm, Hhm⟩ := nm (immOp op);have CHH := Lib.hid (CH.out);rw [Hhm.out] at CHH
     cases hm with
     | true =>
      have HSF : Hid (suf = 46 :: textF imm) := by show _ = _; rw [HSP.out, if_neg hi, if_pos Hhm.out]
      have hzi : (kstr (textF imm)).size ≤ 21 := ksz (textF_len (by rw [← Himm.out]; exact ⟨HIM.out.1, HIM.out.2.1⟩))
      have HE : Hid (s5 ++ (({ data := #[46] } : ByteArray) ++ kstr (textF imm)) = kstr ([40] ++ nmb ++ suf)) := by
       show _ = _;rw [← Hs5.out, HSF.out, show ({ data := #[46] } : ByteArray) ++ kstr (textF imm) = kstr (46 :: textF imm) from kstr_app [46] _, kstr_app]
      have CTT := Lib.hid (CT.out);obtain ⟨im, Him⟩ := nm (kstr (textF imm));rw [Him.out] at CTT hzi HE;clear hi
      go_wp2_with fail
      refine (CHH.out _).mono ?_;rintro e w3 ⟨rfl, rfl⟩
      go_wp2_with fail
      refine (CTT.out _).mono ?_;rintro e w4 ⟨rfl, hu3⟩;clear CTT
      go_wp2_with fail
      go_meet
      case rel => exact ⟨by rw [← HE.out], hu2.then_non hu3⟩
     | false =>
      have HE : Hid (s5 = kstr ([40] ++ nmb ++ suf)) := by show _ = _; rw [← Hs5.out, HSP.out, if_neg hi, if_neg (by rw [Hhm.out]; decide), List.append_nil]
      clear hi
      go_wp2_with fail
      refine (CHH.out _).mono ?_;rintro e w3 ⟨rfl, rfl⟩
      go_wp2_with fail
      go_meet
      case rel => exact ⟨by rw [← HE.out], hu2⟩
   case rest =>
    obtain ⟨rfl, hwc⟩ := hcut;clear d1 d2 d3 h5 CI CT CH HSP;have hbw := HB.out.upd hwc (fun f => f);rw [Hn.out] at hbw;have c4 := hbw.cell 4;have HPC := Lib.hid (PtK.upd hwc (fun _ _ _ f => f) p KA kc HPW.out);have HUC := Lib.hid (HU.out.then_non hwc);obtain ⟨pre, Hpre⟩ := nm ([40] ++ nmb ++ suf)
    have hpl : pre.length ≤ 28 := by rw [← Hpre.out]; simp; omega
    rw [Hpre.out] at HR ⊢;clear hbw hwc hu2
    go_wp2_with fail
    go_loopg [5, 7, 64] n (fun g v _ i wr => ∃ k : Nat, Hid (g = n - k) ∧ k ≤ n ∧ i = .int .i64 k ∧ v = .string (kstr (pre ++ fmtL (p.kids.take k))) ∧ Hid (Upd Non wc wr))
    case atStart => exact ⟨0, rfl, by omega, rfl, by simp [fmtL], Upd.refl⟩
    case round =>
     obtain ⟨k, Hg, hk, rfl, rfl, Hu⟩ := hrel;have hkt := Pt.sizeL_take_le p.kids k;have hfl := fmtL_len (p.kids.take k) (fun q hq => HKS.out q (List.mem_of_mem_take hq));have hz0 : (kstr (pre ++ fmtL (p.kids.take k))).size ≤ 100000000000000 := ksz (by rw [List.length_append]; have := HS.out; omega)
     by_cases hlt : k < n
     ·
      have hkl : k < p.kids.length := by rw [Hn.out]; exact hlt
      obtain ⟨b, o, rfl, hF, hbw, KB, kd, h0, h1, h2, h3, h4, h5⟩ := (PtK.upd Hu.out (fun _ _ _ f => f) p KA kc HPC.out).at_ hkl
      have hks : p.kids[k].size ≤ 1000000000000 := by have := Pt.kids_lt (List.getElem_mem hkl); omega
      have hmem0 := List.getElem_mem hkl;have HTK : Hid (p.kids.take (k + 1) = p.kids.take k ++ [p.kids[k]]) := take_snoc' hkl;generalize p.kids[k] = q at *
      have hmem : q ∈ p.kids := by assumption
      obtain ⟨W3, HW3⟩ := nm (wr.alloc (.cells #[.int .i64 q.v, .int .i64 q.op, .int .i64 q.imm, .int .i64 q.iv, .slice KB q.kids.length kd] 40))
      have hq := PtK.upd (Upd.refl.alloc (S := Non) (.cells #[.int .i64 q.v, .int .i64 q.op, .int .i64 q.imm, .int .i64 q.iv, .slice KB q.kids.length kd] 40)) (fun _ _ _ f => f) q KB kd h5
      have C1 := Lib.hid (HI.out q hmem _ F KB kd hq (HKS.out q hmem) hks);unfold pv at C1;have hql := fmtF_len q (HKS.out q hmem);have hzq : (kstr (fmtF q)).size ≤ 100000000000000 := ksz (by omega)
      have HE : Hid (kstr (pre ++ fmtL (p.kids.take k)) ++ (({ data := #[32] } : ByteArray) ++ kstr (fmtF q)) = kstr (pre ++ fmtL (p.kids.take (k + 1)))) := by
       show _ = _;rw [HTK.out, fmtL_snoc, show ({ data := #[32] } : ByteArray) ++ kstr (fmtF q) = kstr (32 :: fmtF q) from kstr_app [32] _, kstr_app, List.append_assoc]
      obtain ⟨sq, Hsq⟩ := nm (kstr (fmtF q));obtain ⟨sk, Hsk⟩ := nm (kstr (pre ++ fmtL (p.kids.take k)));rw [Hsq.out] at C1 hzq HE;rw [Hsk.out] at hz0 HE ⊢;clear hkt hfl h5 hq hql hmem hmem0 hks
      go_wp2_with fail
      refine C1.out.mono ?_;rintro e w4 ⟨rfl, hu4⟩;clear C1
      go_wp2_with fail
      go_roundg (n - (k + 1))
      case measure => rw [Hg.out]; omega
      case rel => exact ⟨k + 1, rfl, by omega, by go_num, by rw [← HE.out], (Hu.out.alloc _).then_non hu4⟩
     ·
      obtain rfl : n = k := by omega
      have HE : Hid (kstr (pre ++ fmtL (p.kids.take n)) ++ ({ data := #[41] } : ByteArray) = kstr res) := by
       show _ = _;rw [← Hn.out, List.take_length, HR.out];exact kstr_app _ [41]
      obtain ⟨sk, Hsk⟩ := nm (kstr (pre ++ fmtL (p.kids.take n)));rw [Hsk.out] at hz0 HE ⊢;clear hkt hfl
      go_wp2_with fail
      go_ret;exact ⟨by rw [← HE.out]; rfl, HUC.out.then_non Hu.out⟩
end Go.Proofs.YtblkgjdhaibhgaaGreat
