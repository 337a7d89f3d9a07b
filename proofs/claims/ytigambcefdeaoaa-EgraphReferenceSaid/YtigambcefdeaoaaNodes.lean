/-
  What keep.Nodes does: it returns the generated nodes.
-/
import Derived.Test.YtigambcefdeaoaaNSt
import Derived.Deep.RegionLaw
namespace Go.Proofs.Ytigambcefdeaoaa
open Go.RowKit

theorem i64w_of {x : Int} (h : I64 x) : IntKind.i64.wrap x = x := by rw [IntKind.wrap_i64]; unfold I64 at h; omega

theorem step_app {P : Program} {w : World} {ops : Array Oper} {o : Oper} {a : Act} {K : Act → World → Prop} {Q : Exit → Act → World → Prop} {E : Prop} (hgd : o.guard = none) {s x : Operand} {t : TypeId}
    (ho : o.op = .call { callee := .builtin .append, args := #[s, x], argTypes := #[t, t] }) {F : Nat → Prop} {e : TypeId} {size bytes : Nat} (T : SlT P t e size bytes) {A : Option Addr} {n c : Nat} {cs : List Value} (hs : a.eval s = .slice A n c) (h : Own w e size A n c cs)
    {A2 : Option Addr} {m c2 : Nat} {news : List Value} (hx : a.eval x = .slice A2 m c2) (hr : Sl w F A2 news) (hl : news.length = m * size) (h1 : ∀ u ∈ news, u.oneCell' = true) (h63 : n + m ≤ maxLen) (hb : (n + m) * bytes ≤ 140737488355328)
    (k : ∀ A' c' w', Own w' e size A' (n + m) c' (cs ++ news) → Upd (At A) w w' → (∀ k, At A' k → At A k ∨ k = w.heap.size) → K (a.put o.dst (.slice A' (n + m) c')) w') :
    if Region.wanted o (yielded ops a.tmps) = true then Oper.wp P o a w K Q else E := by
  have hw : Region.wanted o (yielded ops a.tmps) = true := by simp [Region.wanted, hgd]
  rw [if_pos hw]
  exact wp_app ho T hs h hx hr hl h1 h63 hb k

theorem kidsTo_succ (out : List Nd) (op x : Int) (j : Nat) : kidsTo out op x (j + 1) = kidsTo out op x j ++ [ofF out (operandSortF op j) ((seedsF x).getD j 0)] := by simp [kidsTo, List.range_succ]

theorem NSt.setNil {w0 wx : World} {bn p : Nat} {op imm : Int} {SA : Option Addr} {seeds : List Int} {sc : Nat} (h : NSt w0 bn p op imm none [] 0 SA seeds sc wx) : NSt w0 bn p op imm none [] 0 SA seeds sc (wx.setCell ⟨bn, 2, none⟩ (.slice none 0 0)) := by
  have u : Upd (· = bn) wx (wx.setCell ⟨bn, 2, none⟩ (.slice none 0 0)) := updCell _ _ _ _
  refine ⟨h.upd.trans u (fun i hi e => by have := h.bnGe; omega), h.bnGe, h.pGe, h.ne, ?_, h.rd.upd u (fun e => h.ne e.symm), h.sds.upd u (fun _ _ hk e => hk.2.1 e), h.sle, h.own.upd u (fun k hk e => (h.sep k hk).2.1 e), h.sep⟩
  simpa using h.blk.set_ 2 (.slice none 0 0)

set_option maxHeartbeats 4000000 in
set_option maxRecDepth 100000 in
theorem nodes_c (w : World) (F : Nat → Prop) (LA : Option Addr) (lc : Nat) (l : List Int) (values : Bool) (hl : Ints w F LA l) (hi : ∀ x ∈ l, I64 x) (hlen : l.length ≤ 1000000000000000) :
    Calls Try.prog 15 #[.slice LA l.length lc, .bool values] w fun e w' => ∃ A c, e = .returned (.slice A (nodesF values l).length c) ∧ NodesO w' (w.heap.size ≤ ·) A (nodesF values l).length c (nodesF values l) ∧ (∀ k, At A k → w.heap.size ≤ k) ∧ Upd Non w w' := by
  have HI := Lib.hid hi
  clear hi
  go_enter Try.func15, Try.ntmps15
  go_wp2_with fail
  go_loopg [5, 6] 14 (fun g v i wr => ∃ (k c : Nat) (A : Option Addr) (out : List Nd), Hid (g = 14 - k) ∧ k ≤ 14 ∧ k ≤ l.length ∧ i = .int .i64 k ∧ v = .slice A out.length c ∧ Hid (nodesTo values l k = out) ∧ NodesO wr (w.heap.size ≤ ·) A out.length c out ∧ Hid (∀ j, At A j → w.heap.size ≤ j) ∧ Upd Non w wr)
  case atStart =>
    refine ⟨0, 3, some ⟨w.heap.size, 0, none⟩, baseN, rfl, by omega, by omega, rfl, rfl, rfl, ⟨rfl, _, Own.mk_ (Blk.new _ _ _) (by simp [baseN]) (by simp [maxLen]) (by simp) rfl, ?_⟩, fun j hj => ?_, Upd.refl.alloc _⟩
    · refine ⟨rfl, fun i hi => ?_⟩
      have hi3 : i < 3 := hi
      match i, hi3 with
      | 0, _ => exact ⟨none, 0, rfl, rfl, rfl, by simp [baseN], Ints.nil⟩
      | 1, _ => exact ⟨none, 0, rfl, rfl, rfl, by simp [baseN], Ints.nil⟩
      | 2, _ => exact ⟨none, 0, rfl, rfl, rfl, by simp [baseN], Ints.nil⟩
    · rw [At.some_] at hj; omega
  case round =>
    obtain ⟨k, c, A, out, Hg, hk, hkl, rfl, rfl, Hout, hno, HA, hu⟩ := hrel
    obtain ⟨wo, rfl⟩ : ∃ wo : World, wo = wr := ⟨_, rfl⟩
    have hol := nodesTo_len values l k
    rw [Hout.out] at hol
    by_cases hlt : k < l.length ∧ k < 14
    · obtain ⟨hlt, hk14⟩ := hlt
      have HS := Lib.hid (nodesTo_succ values l k hlt)
      rw [Hout.out] at HS
      have HB := Lib.hid (nodesTo_base values l k)
      rw [Hout.out] at HB
      have HSM := Lib.hid (nodesTo_small values l k)
      rw [Hout.out] at HSM
      have hx := HI.out _ (List.getElem_mem hlt)
      obtain ⟨lb, lo, rfl, _, hlb, hcx⟩ := (hl.upd hu (fun _ _ _ f => f)).at_ hlt
      have Hhl := Lib.hid hl
      clear hl
      generalize l[k] = x at *
      have q7 : wrap64 (x.tdiv 7) = x.tdiv 7 := wrap64_of (hx.tdiv 7 (by omega))
      have q101 : wrap64 (x.tdiv 101) = x.tdiv 101 := wrap64_of (hx.tdiv 101 (by omega))
      have q1009 : wrap64 (x.tdiv 1009) = x.tdiv 1009 := wrap64_of (hx.tdiv 1009 (by omega))
      go_wp2_with fail
      refine wp_region_still_tail 15 (by kernel_rfl) (by kernel_rfl) ?_
      simp only [List.take_succ_cons, List.take_zero, List.drop_succ_cons, List.drop_zero]
      repeat still_step
      try refine wpStill_nil ?_
      change wpList _ _ _ _ _ wo.drew
      have HQ7 := Lib.hid q7
      have HQ101 := Lib.hid q101
      have HQ1009 := Lib.hid q1009
      clear q7 q101 q1009
      have C1 := Lib.hid (fun (W : World) => pick_c x 19 W (by omega) (by omega))
      have m1 := Int.emod_nonneg x (show (19 : Int) ≠ 0 by omega)
      have m2 := Int.emod_lt_of_pos x (show (0 : Int) < 19 by omega)
      obtain ⟨y19, Hy19⟩ : ∃ y, Hid (x % 19 = y) := nm _
      rw [Hy19.out] at m1 m2
      go_wp2_with fail
      rw [HQ7.out, HQ101.out, HQ1009.out]
      refine (C1.out _).mono ?_
      rintro e w1 ⟨rfl, rfl⟩
      rw [Hy19.out]
      clear C1
      have hns := NSt.start wo (4 + y19) (x.tdiv 7) (x.tdiv 101) (x.tdiv 1009)
      have hlb1 : lb < wo.heap.size + 1 := by omega
      have hlb2 : lb < wo.heap.size + 1 + 1 := by omega
      obtain ⟨y9, Hy9⟩ : ∃ y, Hid (x % 9 = y) := nm _
      obtain ⟨y11, Hy11⟩ : ∃ y, Hid (x % 11 = y) := nm _
      obtain ⟨op1, Hop1⟩ : ∃ o, Hid ((if values = false ∧ 5 < y9 then stateOps.getD ((x.tdiv 9) % 5).toNat 0 else 4 + y19) = o) := nm _
      go_upto_region 7 with fail
      go_cut [60] (fun s60 wx => s60 = .bool (decide (values = false ∧ 5 < y9)) ∧ NSt wo (wo.heap.size + 1 + 1) (wo.heap.size + 1) (4 + y19) 0 none [] 0 (some ⟨wo.heap.size, 0, none⟩) (seedsF x) 3 wx)
      case first =>
        have C2 := Lib.hid (fun (W : World) => pick_c x 9 W (by omega) (by omega))
        cases values with
        | true =>
          go_wp2_with fail
          go_meet
          exact ⟨by simp, hns⟩
        | false =>
          go_wp2_with fail
          refine (C2.out _).mono ?_
          rintro e w1 ⟨rfl, rfl⟩
          rw [Hy9.out]
          clear C2
          go_wp2_with fail
          go_meet
          exact ⟨by simp, hns⟩
      case rest =>
        clear hns
        obtain ⟨rfl, hns⟩ := hcut
        have hcxc := cell_upd hcx hns.upd (fun f => f)
        have hlbc := World.block_lt_of_cell? _ _ hcxc
        dsimp only at hlbc
        go_upto_if 60 with fail
        go_cut [] (fun wx => NSt wo (wo.heap.size + 1 + 1) (wo.heap.size + 1) op1 0 none [] 0 (some ⟨wo.heap.size, 0, none⟩) (seedsF x) 3 wx)
        case first =>
          by_cases hc : values = false ∧ 5 < y9
          · have hd : decide (values = false ∧ 5 < y9) = true := by simpa using hc
            have q9 : wrap64 (x.tdiv 9) = x.tdiv 9 := wrap64_of (hx.tdiv 9 (by omega))
            have C2 := Lib.hid (fun (W : World) => pick_c (x.tdiv 9) 5 W (by omega) (by omega))
            have n1 := Int.emod_nonneg (x.tdiv 9) (show (5 : Int) ≠ 0 by omega)
            have n2 := Int.emod_lt_of_pos (x.tdiv 9) (show (0 : Int) < 5 by omega)
            have Hop2 : Hid (stateOps.getD ((x.tdiv 9) % 5).toNat 0 = op1) := by have := Hop1.out; rw [if_pos hc] at this; exact this
            generalize (x.tdiv 9) % 5 = y5 at *
            obtain ⟨r, rfl⟩ := Int.eq_ofNat_of_zero_le n1
            rw [hd]
            clear hd hc Hop1
            go_wp2_with fail
            refine (C2.out _).mono ?_
            rintro e w1 ⟨rfl, rfl⟩
            clear C2 q9
            have hbl := hns.blk.lt
            have b0 := hns.blk.cell 0
            have f0 := hns.blk.frozen 0
            have hcr : (wc.alloc (Obj.cells #[Value.int IntKind.i64 23, Value.int IntKind.i64 27, Value.int IntKind.i64 28, Value.int IntKind.i64 29, Value.int IntKind.i64 24] 3)).cell? ⟨wc.heap.size, r, none⟩ = some (.int .i64 op1) := by
              rw [(Blk.new _ _ _).cell, ← Hop2.out]
              have : r < 5 := by omega
              match r, this with
              | 0, _ | 1, _ | 2, _ | 3, _ | 4, _ => rfl
            clear hcxc Hop2
            go_wp2_with fail
            go_meet
            first
              | exact (hns.setOp op1).non (Upd.refl.alloc _)
              | exact (hns.non (Upd.refl.alloc _)).setOp op1
          · have hd : decide (values = false ∧ 5 < y9) = false := by simpa using hc
            have Hop2 : Hid (4 + y19 = op1) := by have := Hop1.out; rw [if_neg hc] at this; exact this
            rw [hd]
            clear hd hc Hop1
            go_wp2_with fail
            go_meet
            rw [← Hop2.out]
            exact hns
        case rest =>
          have hns := hcut
          clear hcut
          have hcxc := cell_upd hcx hns.upd (fun f => f)
          have hlbc := World.block_lt_of_cell? _ _ hcxc
          dsimp only at hlbc
          obtain ⟨op2, Hop2⟩ : ∃ o, Hid ((if y11 = 0 then 1 else op1) = o) := nm _
          obtain ⟨imm2, Him2⟩ : ∃ o, Hid ((if y11 = 0 then wordF (x.tdiv 11) x else 0) = o) := nm _
          have C2 := Lib.hid (fun (W : World) => pick_c x 11 W (by omega) (by omega))
          go_wp2_with fail
          refine (C2.out _).mono ?_
          rintro e w1 ⟨rfl, rfl⟩
          rw [Hy11.out]
          clear C2
          go_upto_if 76 with fail
          go_cut [] (fun wx => NSt wo (wo.heap.size + 1 + 1) (wo.heap.size + 1) op2 imm2 none [] 0 (some ⟨wo.heap.size, 0, none⟩) (seedsF x) 3 wx)
          case first =>
            by_cases hc : y11 = 0
            · have hd : (y11 == 0) = true := by simpa using hc
              have Hop3 : Hid (1 = op2) := by have := Hop2.out; rw [if_pos hc] at this; exact this
              have Him3 : Hid (wordF (x.tdiv 11) x = imm2) := by have := Him2.out; rw [if_pos hc] at this; exact this
              have q11 : wrap64 (x.tdiv 11) = x.tdiv 11 := wrap64_of (hx.tdiv 11 (by omega))
              have q11' : IntKind.i64.wrap (x.tdiv 11) = x.tdiv 11 := i64w_of (hx.tdiv 11 (by omega))
              have C3 := Lib.hid (fun (W : World) => word_c W (x.tdiv 11) x (hx.tdiv 11 (by omega)))
              rw [Him3.out] at C3
              rw [hd]
              clear hd hc Hop2 Him2
              go_wp2_with fail
              refine wp_region_still_tail 9 (by kernel_rfl) (by kernel_rfl) ?_
              simp only [List.take_succ_cons, List.take_zero, List.drop_succ_cons, List.drop_zero]
              repeat still_step
              try refine wpStill_nil ?_
              change wpList _ _ _ _ _ wc.drew
              go_wp2_with fail
              refine (C3.out _).mono ?_
              rintro e w1 ⟨rfl, hu2⟩
              have hns2 := (hns.non (Upd.refl.drew.then_non hu2))
              clear C3 q11 q11' hcxc hlbc hns hu2
              have b0 := hns2.blk.cell 0
              have b1 := hns2.blk.cell 1
              have b2 := hns2.blk.cell 2
              have f0 := hns2.blk.frozen 0
              have f1 := hns2.blk.frozen 1
              have f2 := hns2.blk.frozen 2
              go_wp2_with fail
              go_meet
              rw [← Hop3.out]
              exact ((hns2.setOp 1).setImm imm2).setNil
            · have hd : (y11 == 0) = false := by simpa using hc
              have Hop3 : Hid (op1 = op2) := by have := Hop2.out; rw [if_neg hc] at this; exact this
              have Him3 : Hid (0 = imm2) := by have := Him2.out; rw [if_neg hc] at this; exact this
              rw [hd]
              clear hd hc Hop2 Him2
              go_wp2_with fail
              go_meet
              rw [← Hop3.out, ← Him3.out]
              exact hns
          case rest =>
            have hns := hcut
            clear hcut
            have HOP : Hid (op2F values x = op2) := by
              show _ = _
              unfold op2F op1F
              rw [Hy11.out, Hy9.out, Hy19.out, Hop1.out, Hop2.out]
            have HIM : Hid (imm2F x = imm2) := by
              show _ = _
              unfold imm2F
              rw [Hy11.out, Him2.out]
            clear Hop1 Hop2 Him2 Hy9 Hy19 m1 m2 hlb1 hlb2
            have hr2 := op2F_range values x
            rw [HOP.out] at hr2
            have ha := arity_small op2 hr2.1 hr2.2
            have C3 := Lib.hid (fun (W : World) => arity_c op2 W)
            obtain ⟨⟨a, ok⟩, Ha⟩ : ∃ a, Hid (arityF op2 = a) := nm _
            rw [Ha.out] at ha C3
            dsimp only at ha C3
            obtain ⟨ha0, ha3, rfl⟩ := ha
            obtain ⟨a, rfl⟩ := Int.eq_ofNat_of_zero_le ha0
            have b0 := hns.blk.cell 0
            go_wp2_with fail
            refine (C3.out _).mono ?_
            rintro e w1 ⟨rfl, rfl⟩
            clear C3 b0
            go_wp2_with fail
            go_loopg [11] a (fun g i wx => ∃ (j : Nat) (KA SA : Option Addr) (kc sc : Nat), Hid (g = a - j) ∧ j ≤ a ∧ i = .int .i64 j ∧ NSt wo (wo.heap.size + 1 + 1) (wo.heap.size + 1) op2 imm2 KA (kidsTo out op2 x j) kc SA ((seedsF x).drop j) sc wx)
            case atStart => exact ⟨0, none, some ⟨wo.heap.size, 0, none⟩, 0, 3, rfl, by omega, rfl, hns⟩
            case round =>
              obtain ⟨j, KA, SA, kc, sc, Hg3, hj, rfl, hns2⟩ := hrel
              clear hns
              by_cases hlt3 : j < a
              · have HKS := Lib.hid (kidsTo_succ out op2 x j)
                have hkl : (kidsTo out op2 x j).length = j := by simp [kidsTo]
                obtain ⟨K, HK⟩ : ∃ K, Hid (kidsTo out op2 x j = K) := nm _
                rw [HK.out] at hns2 HKS hkl
                obtain ⟨sd, Hsd⟩ : ∃ s, Hid ((seedsF x).drop j = s) := nm _
                rw [Hsd.out] at hns2
                have Hsd2 : Hid ((seedsF x).getD j 0 = sd.headD 0) := by show _ = _; rw [← Hsd.out]; simp [List.getD, List.head?_drop]
                have Hsd3 : Hid ((seedsF x).drop (j + 1) = sd.tail) := by show _ = _; rw [← Hsd.out]; simp
                obtain ⟨so, Hso⟩ : ∃ s, Hid (operandSortF op2 j = s) := nm _
                have hso := operandSort_cases op2 j
                rw [Hso.out] at hso HKS
                obtain ⟨s0, Hs0⟩ : ∃ s, Hid (sd.headD 0 = s) := nm _
                rw [Hsd2.out, Hs0.out] at HKS
                have HOB : Hid (0 < (idxs (sortsF out) so out.length).length) := by
                  obtain ⟨r, hr⟩ := HB.out
                  show _ < _
                  rw [hr]
                  exact idxs_base r so hso
                have C1 := Lib.hid (fun (W : World) => operandSort_c op2 j W)
                rw [Hso.out] at C1
                have hnsd := hns2.non Upd.refl.drew
                have hAlt : Hid (∀ k, At A k → k < wo.heap.size) := fun k hk => by obtain ⟨_, cs, ho, _⟩ := hno; exact ho.lt hk
                have hv := (hno.mono (G' := (· < wo.heap.size)) (fun k hk _ => hk)).upd hnsd.upd (fun _ _ f => f) (fun _ _ _ f => f)
                have cb0 := hns2.blk.cell 0
                have cb2 := hns2.blk.cell 2
                have HKL := Lib.hid hkl
                clear hso hkl
                go_wp2_with fail
                go_region_law (first
                  | (refine step_app rfl rfl T_ints' rfl (hown.alloc _) rfl (Sl.new _ _ _) rfl (by simp [Value.oneCell']) (by rw [HKL.out]; simp only [maxLen]; omega) (by rw [HKL.out]; omega) ?_; intro A4 c4 w4 ho4 hu4 hat4; have hblk4 := (hns5.blk.alloc _).upd hu4 (fun q => (hns5.sep _ q).2.1 rfl); have cb4 := hblk4.cell 2; have f4 := hblk4.frozen 2)
                  | (go_simp; go_at_call 44; refine (C1.out _).mono ?_; rintro e w1 ⟨rfl, rfl⟩)
                  | (go_simp; go_at_call 45; refine (next_c _ _ SA sc sd _ (fun k => k ≠ wo.heap.size + 1 ∧ k ≠ wo.heap.size + 1 + 1 ∧ ¬ At KA k) (fun k h => h.1) hnsd.rd hnsd.sds hnsd.sle).mono ?_; rintro e w1 ⟨rfl, A3, c3, hr3, hs3, hl3, hu3⟩; rw [Hs0.out]; have hns4 := hnsd.next hr3 hs3 hl3 hu3; have hv1 := hv.upd hu3 (fun k hk e => by have := hAlt.out k hk; omega) (fun k _ hk e => by omega); have cb2' := hns4.blk.cell 2; clear hr3 hs3 hl3 hu3)
                  | (go_simp; go_at_call 43; refine (of_c _ _ A c out so _ (hv1.view (F := fun _ => True) (fun _ _ => trivial) (fun _ _ _ => trivial)) (by omega) (fun nd h => by have := HSM.out nd h; omega) HOB.out).mono ?_; rintro e w2 ⟨rfl, hu5⟩; have hns5 := hns4.non hu5; have hown := hns5.own; have cb2'' := hns5.blk.cell 2; have hbl5 := hns5.blk.lt))
                all_goals
                  go_wp2_with fail
                  go_roundg (a - (j + 1))
                  case measure => rw [Hg3.out]; omega
                  case rel =>
                    refine ⟨j + 1, A4, A3, c4, c3, rfl, by omega, by go_num, ?_⟩
                    rw [HKS.out, Hsd3.out]
                    exact (hns5.non (Upd.refl.alloc _)).app ho4 hu4 (fun k hk => (hat4 k hk).imp id (fun e => by omega))
              · obtain rfl : a = j := by omega
                obtain ⟨K, HK⟩ : ∃ K, Hid (kidsTo out op2 x a = K) := nm _
                rw [HK.out] at hns2
                obtain ⟨sd, Hsd⟩ : ∃ s, Hid ((seedsF x).drop a = s) := nm _
                rw [Hsd.out] at hns2
                obtain ⟨imm3, Him3⟩ : ∃ o, Hid ((if op2 = 27 then 1 + (x.tdiv 5) % 2 else imm2) = o) := nm _
                obtain ⟨imm4, Him4⟩ : ∃ o, Hid ((if op2 = 23 ∨ op2 = 28 then (x.tdiv 5) % 2 else imm3) = o) := nm _
                have q5 : wrap64 (x.tdiv 5) = x.tdiv 5 := wrap64_of (hx.tdiv 5 (by omega))
                have HQ5 := Lib.hid q5
                clear q5
                have C5 := Lib.hid (fun (W : World) => pick_c (x.tdiv 5) 2 W (by omega) (by omega))
                have n1 := Int.emod_nonneg (x.tdiv 5) (show (2 : Int) ≠ 0 by omega)
                have n2 := Int.emod_lt_of_pos (x.tdiv 5) (show (0 : Int) < 2 by omega)
                have HND : Hid (nodeOf values out x = ⟨op2, imm4, K⟩) := by
                  show _ = _
                  unfold nodeOf imm4F imm3F
                  rw [HOP.out, HIM.out, Ha.out]
                  dsimp only
                  rw [Int.toNat_natCast, HK.out, Him3.out, Him4.out]
                obtain ⟨y5, Hy5⟩ : ∃ y, Hid ((x.tdiv 5) % 2 = y) := nm _
                rw [Hy5.out] at n1 n2 Him3 Him4 C5
                have hcxr := cell_upd hcx hns2.upd (fun f => f)
                have cb0 := hns2.blk.cell 0
                have cb1 := hns2.blk.cell 1
                have f1 := hns2.blk.frozen 1
                go_upto_if 114 with fail
                go_cut [] (fun wx => NSt wo (wo.heap.size + 1 + 1) (wo.heap.size + 1) op2 imm3 KA K kc SA sd sc wx)
                case first =>
                  by_cases hc : op2 = 27
                  · have hd : (op2 == 27) = true := by simpa using hc
                    have Him5 : Hid (1 + y5 = imm3) := by have := Him3.out; rw [if_pos hc] at this; exact this
                    rw [hd]
                    clear hd hc Him3 Him4 HND
                    go_wp2_with fail
                    rw [HQ5.out]
                    refine (C5.out _).mono ?_
                    rintro e w1 ⟨rfl, rfl⟩
                    clear C5
                    go_wp2_with fail
                    go_meet
                    rw [← Him5.out]
                    exact hns2.setImm _
                  · have hd : (op2 == 27) = false := by simpa using hc
                    have Him5 : Hid (imm2 = imm3) := by have := Him3.out; rw [if_neg hc] at this; exact this
                    rw [hd]
                    clear hd hc Him3 Him4 HND
                    go_wp2_with fail
                    go_meet
                    rw [← Him5.out]
                    exact hns2
                case rest =>
                  have hns3 := hcut
                  clear hcut hns2 cb0 cb1 f1 hcxr
                  have hcxr := cell_upd hcx hns3.upd (fun f => f)
                  have cb0 := hns3.blk.cell 0
                  have cb1 := hns3.blk.cell 1
                  have f1 := hns3.blk.frozen 1
                  go_upto_region 18 with fail
                  go_cut [130] (fun s wx => s = .bool (decide (op2 = 23 ∨ op2 = 28)) ∧ NSt wo (wo.heap.size + 1 + 1) (wo.heap.size + 1) op2 imm3 KA K kc SA sd sc wx)
                  case first =>
                    by_cases h23 : op2 = 23
                    · have hd : (op2 == 23) = true := by simpa using h23
                      have HD : Hid (decide (op2 = 23 ∨ op2 = 28) = true) := by simp [Hid, h23]
                      clear h23
                      go_wp2_with fail
                      go_meet
                      exact ⟨by rw [HD.out], hns3⟩
                    · have hd : (op2 == 23) = false := by simpa using h23
                      have HD : Hid (decide (op2 = 23 ∨ op2 = 28) = (op2 == 28)) := by simp [Hid, h23]; rfl
                      clear h23
                      go_wp2_with fail
                      all_goals
                        go_meet
                        exact ⟨by rw [HD.out], hns3⟩
                  case rest =>
                    clear hns3 cb0 cb1 f1 hcxr
                    obtain ⟨rfl, hns3⟩ := hcut
                    have hcxr := cell_upd hcx hns3.upd (fun f => f)
                    have cb1 := hns3.blk.cell 1
                    have f1 := hns3.blk.frozen 1
                    go_upto_if 130 with fail
                    go_cut [] (fun wx => NSt wo (wo.heap.size + 1 + 1) (wo.heap.size + 1) op2 imm4 KA K kc SA sd sc wx)
                    case first =>
                      by_cases hc : op2 = 23 ∨ op2 = 28
                      · have hd : decide (op2 = 23 ∨ op2 = 28) = true := by simpa using hc
                        have Him5 : Hid (y5 = imm4) := by have := Him4.out; rw [if_pos hc] at this; exact this
                        rw [hd]
                        clear hd hc Him3 Him4 HND
                        go_wp2_with fail
                        rw [HQ5.out]
                        refine (C5.out _).mono ?_
                        rintro e w1 ⟨rfl, rfl⟩
                        clear C5
                        go_wp2_with fail
                        go_meet
                        rw [← Him5.out]
                        exact hns3.setImm _
                      · have hd : decide (op2 = 23 ∨ op2 = 28) = false := by simpa using hc
                        have Him5 : Hid (imm3 = imm4) := by have := Him4.out; rw [if_neg hc] at this; exact this
                        rw [hd]
                        clear hd hc Him3 Him4 HND
                        go_wp2_with fail
                        go_meet
                        rw [← Him5.out]
                        exact hns3
                    case rest =>
                      have hns4 := hcut
                      clear hcut hns3 cb1 f1 hcxr C5
                      have hAlt : Hid (∀ k, At A k → k < wo.heap.size) := fun k hk => by obtain ⟨_, cs, ho, _⟩ := hno; exact ho.lt hk
                      have cb0 := hns4.blk.cell 0
                      have cb1 := hns4.blk.cell 1
                      have cb2 := hns4.blk.cell 2
                      have C6 := Lib.hid (contains_c wc (fun _ => True) (At KA) A KA c kc out ⟨op2, imm4, K⟩ ((hno.upd hns4.upd (fun _ _ f => f) (fun _ _ _ f => f)).view (fun _ _ => trivial) (fun _ _ _ => trivial)) hns4.own.ints (by omega) (fun nd h => by have := HSM.out nd h; omega))
                      go_wp2_with fail
                      refine C6.out.mono ?_
                      rintro e w1 ⟨rfl, hu6⟩
                      have hns5 := hns4.non hu6
                      clear C6 cb0 cb1 cb2 hns4 hu6
                      have hno1 := hno.upd hns5.upd (fun _ _ f => f) (fun _ _ _ f => f)
                      have hsz := hu.size
                      have hu7 := hu.then_non hns5.upd
                      cases hs : out.any (fun y => sameNd y ⟨op2, imm4, K⟩) with
                      | true =>
                        have HS2 : Hid (nodesTo values l (k + 1) = out) := by show _ = _; rw [HS.out]; unfold nodesStep; rw [HND.out, hs]; rfl
                        clear hs HS HND
                        go_wp2_with fail
                        go_roundg (14 - (k + 1))
                        case measure => rw [Hg.out]; omega
                        case rel => exact ⟨k + 1, c, A, out, rfl, by omega, by omega, by go_num, rfl, HS2, hno1, HA, hu7⟩
                      | false =>
                        have HS2 : Hid (nodesTo values l (k + 1) = out ++ [⟨op2, imm4, K⟩]) := by show _ = _; rw [HS.out]; unfold nodesStep; rw [HND.out, hs]; rfl
                        clear hs HS HND
                        have cb0 := hns5.blk.cell 0
                        have cb1 := hns5.blk.cell 1
                        have cb2 := hns5.blk.cell 2
                        obtain ⟨hnn, cs, ho, hcs⟩ := hno1
                        clear hnn
                        go_wp2_with (at_builtin; refine wpList_app rfl rfl T_nodes rfl (ho.alloc _) rfl (Sl.new _ _ _) rfl (by simp [Value.oneCell']) (by simp only [maxLen]; omega) (by omega) ?_; intro A8 c8 w8 ho8 hu8 hat8)
                        go_roundg (14 - (k + 1))
                        case measure => rw [Hg.out]; omega
                        case rel =>
                          have hal : Upd Non w1 (w1.alloc (.cells #[.int .i64 op2, .int .i64 imm4, .slice KA K.length kc] 24)) := Upd.refl.alloc _
                          have hcs2 := hcs.mono hal (fun _ _ _ f => f) (fun _ _ h => h)
                          have hki : Ints (w1.alloc (.cells #[.int .i64 op2, .int .i64 imm4, .slice KA K.length kc] 24)) (fun k => w.heap.size ≤ k ∧ ¬ At A k) KA K :=
                            (hns5.own.ints.mono (G := fun k => w.heap.size ≤ k ∧ ¬ At A k) (fun k _ hk => ⟨by have := (hns5.sep k hk).1; omega, fun hA => by have := (hns5.sep k hk).1; have := hAlt.out k hA; omega⟩)).upd hal (fun _ _ _ f => f)
                          have hno8 := NodesO.snoc (G' := (w.heap.size ≤ ·)) (nd := ⟨op2, imm4, K⟩) ⟨rfl, cs, ho.upd hal (fun _ _ f => f), hcs2⟩ hcs2 hki hns5.own.le ho8 hu8 hat8 (fun _ _ h => h)
                          refine ⟨k + 1, c8, A8, out ++ [⟨op2, imm4, K⟩], rfl, by omega, by omega, by go_num, by simp, HS2, by simpa using hno8, fun b hb => ?_, (hu7.then_non hal).trans hu8 (fun i hi h => by have := HA.out i h; omega)⟩
                          rcases hat8 b hb with h | h
                          · exact HA.out b h
                          · have := hu7.size; simp at h; omega
    · have HF : Hid (nodesF values l = out) := by
        show _ = _
        rw [← Hout.out]
        unfold nodesF nodesTo
        by_cases h14 : k = 14
        · rw [h14]
        · rw [List.take_of_length_le (by omega), List.take_of_length_le (by omega)]
      by_cases hc : k < l.length
      all_goals
        go_wp2_with fail
        go_ret
        rw [HF.out]
        exact ⟨A, c, rfl, hno, HA.out, hu⟩
end Go.Proofs.Ytigambcefdeaoaa
