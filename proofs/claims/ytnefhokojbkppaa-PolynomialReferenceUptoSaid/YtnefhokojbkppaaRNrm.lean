/-
  What the reference's normalize does: the sorted sum of a pattern, or false.
-/
import Derived.Test.YtnefhokojbkppaaRPoly
namespace Go.Proofs.Ytnefhokojbkppaa
open Go.RowKit

theorem T_monLists : SlT Try.prog 93 25 1 24 := by
  obtain ⟨i, h1, h2, h3, h4⟩ := info_parts (show (Try.prog.info? 25).map (fun i => (i.zero, i.size, i.bytes)) = some (some (.slice none 0 0), 1, 24) from by kernel_rfl)
  exact ⟨Try.underlying93, ⟨i, _, h1, h2, h3, h4, rfl⟩, by omega⟩
/-- What the reference's normalize hands back. -/
def RnRet (n : Nat) (w : World) (o : Option PL) (e : Ending) (w' : World) : Prop :=
  match o with
  | none => e = .returned (.tuple #[.slice none 0 0, .bool false])
  | some l => ∃ r A c, e = .returned (.tuple #[.slice A (mns r).length c, .bool true]) ∧ MonsV w' (fun k => w.heap.size ≤ k) A (mns r) ∧ (mns r).length ≤ c ∧ NF n r ∧ Eqv r l
theorem mns_len (r : PL) : (mns r).length = r.length := by simp [mns]
theorem mns_lenQ {n : Nat} {r : PL} (h : NF n r) : LenQ n (mns r) := fun m hm => by
  obtain ⟨t, ht, rfl⟩ := List.mem_map.1 hm
  simp only [exps, List.length_map]
  exact (h.ok t ht).1
theorem mns_small {n : Nat} {r : PL} (h : NF n r) : SmallQ n (mns r) := fun m hm => by
  obtain ⟨t, ht, rfl⟩ := List.mem_map.1 hm
  refine ⟨by simp only [exps, List.length_map]; exact (h.ok t ht).1, fun e he => ?_⟩
  obtain ⟨x, _, rfl⟩ := List.mem_map.1 he
  have := x.toNat_lt
  omega
theorem exps_unit (n k : Nat) : exps (unitM n k) = (List.replicate n (0 : Int)).set k 1 := by
  unfold exps unitM
  rw [List.map_set, List.map_replicate]; rfl
theorem allSome_map : ∀ l : List PL, allSome (l.map some) = some l
  | [] => rfl
  | x :: l => by simp only [List.map_cons, allSome, allSome_map l]
/-- Where a kid is no polynomial, neither is the pattern. -/
theorem tm_none_kid {n : Nat} {p q : Pt} (hv : p.v = 0) (har : p.kids.length = (oSortsF p.op).1.length) (hq : q ∈ p.kids) (h : tm n q = none) : tm n p = none := by
  rw [tm_eq, if_neg (by omega)]
  by_cases h1 : p.op = 1
  · rw [h1] at har
    have : p.kids.length = 0 := har
    rw [List.eq_nil_of_length_eq_zero this] at hq
    simp at hq
  · rw [if_neg h1]
    by_cases h2 : p.op = 12
    · rw [if_pos h2]
      rw [h2] at har
      have h2 : p.kids.length = 2 := har
      match hk : p.kids, h2 with
      | [a, b], _ =>
        rw [hk] at hq
        simp only [List.map_cons, List.getD_cons_zero, List.getD_cons_succ]
        cases ha : tm n a with
        | none => rfl
        | some l =>
          by_cases hb : b.op = 1
          · exfalso
            simp only [List.mem_cons, List.not_mem_nil, or_false] at hq
            rcases hq with rfl | rfl
            · rw [ha] at h; cases h
            · rw [tm_eq] at h
              split at h
              · cases h
              · first | (rw [if_pos hb] at h; cases h) | cases h
          · simp [hb]
    · rw [if_neg h2, allSome_none (List.mem_map.2 ⟨q, hq, h⟩)]
structure NRow where
  A : Option Addr
  c : Nat
  r : PL
  l : PL
def NRow.val (x : NRow) : Value := .slice x.A (mns x.r).length x.c
def NRow.ok (n : Nat) (w : World) (F : Nat → Prop) (x : NRow) : Prop := MonsV w F x.A (mns x.r) ∧ (mns x.r).length ≤ x.c ∧ NF n x.r ∧ Eqv x.r x.l
theorem NRow.ok.upd {n : Nat} {w w' : World} {F S : Nat → Prop} {x : NRow} (h : x.ok n w F) (u : Upd S w w') (d : ∀ k, k < w.heap.size → F k → ¬ S k) : x.ok n w' F := ⟨h.1.upd u d, h.2⟩
theorem NRow.ok.mono {n : Nat} {w : World} {F G : Nat → Prop} {x : NRow} (h : x.ok n w F) (g : ∀ k, k < w.heap.size → F k → G k) : x.ok n w G := ⟨h.1.mono g, h.2⟩

set_option maxRecDepth 100000 in
set_option maxHeartbeats 4000000 in
theorem r18normalize_c (n : Nat) (hn : n ≤ 1000000) (p : Pt) : ∀ (w : World) (F : Nat → Prop) (KA : Option Addr) (kc : Nat), PtK w F p KA kc → WfP n p → p.size ≤ 24 →
    Calls Try.prog 33 #[pv p KA kc, .int .i64 n] w fun e w' => RnRet n w (tm n p) e w' ∧ Upd Non w w' := by
  induction p using Pt.ind with
  | h p ih =>
    intro w F KA kc hp hwf hs
    have hse := Pt.size_eq p
    have hle := Pt.len_le p.kids
    rw [WfP.iff] at hwf
    obtain ⟨hv0, hvn, har, hkw⟩ := hwf
    have HI := Lib.hid ih
    have HKW := Lib.hid hkw
    have HT := Lib.hid (tm_eq n p)
    have HPS := Lib.hid hs
    have HSE := Lib.hid hse
    have HNK : Hid (p.v = 0 → ∀ q ∈ p.kids, tm n q = none → tm n p = none) := fun hv q hq h => tm_none_kid hv (har hv) hq h
    obtain ⟨W, HW⟩ := nm (w.alloc (.cells #[.int .i64 p.v, .int .i64 p.op, .int .i64 p.imm, .int .i64 p.iv, .slice KA p.kids.length kc] 24))
    have hU : Upd Non w W := by rw [← HW.out]; exact Upd.refl.alloc _
    have hb : Blk W w.heap.size 24 #[.int .i64 p.v, .int .i64 p.op, .int .i64 p.imm, .int .i64 p.iv, .slice KA p.kids.length kc] := by rw [← HW.out]; exact Blk.new _ _ _
    have hsz : W.heap.size = w.heap.size + 1 := by rw [← HW.out]; simp
    have e0 := HW.out
    have c0 := hb.cell 0
    have c1 := hb.cell 1
    have c2 := hb.cell 2
    have c4 := hb.cell 4
    have hpW := PtK.upd hU (fun _ _ _ f => f) p KA kc hp
    unfold pv
    obtain ⟨R, HR⟩ := nm (tm n p)
    rw [HR.out] at HT HNK
    rw [HR.out]
    obtain ⟨v, Hv⟩ := nm p.v
    obtain ⟨op, Hop⟩ := nm p.op
    obtain ⟨imm, Him⟩ := nm p.imm
    obtain ⟨m, Hm⟩ := nm p.kids.length
    rw [Hv.out] at c0 e0 hv0 hvn har HT hb HNK
    rw [Hop.out] at c1 e0 har HT hb
    rw [Him.out] at c2 e0 HT hb
    rw [Hm.out] at c4 e0 hle har hb
    rw [Hv.out, Hop.out, Him.out, Hm.out]
    have hm12 : m ≤ 24 := by omega
    have hmk := run_mk (P := Try.prog) T_ints' zeroI rfl n (by omega) (by omega)
    clear ih hse hp hs hkw
    by_cases hv : 0 < v
    · have HT2 : Hid (R = some [(unitM n (v - 1).toNat, 1)]) := by show _ = _; rw [HT.out, if_pos hv]
      obtain ⟨k, rfl⟩ : ∃ k : Nat, v = (k : Int) + 1 := ⟨(v - 1).toNat, by omega⟩
      have hk1 : wrap64 ((k : Int) + 1 - 1) = (k : Int) := by unfold wrap64; omega
      have hkn : k < n := by omega
      rw [show ((k : Int) + 1 - 1).toNat = k by omega] at HT2
      obtain ⟨W2, HW2⟩ := nm (W.alloc (.cells (Array.replicate n (.int .i64 0)) 3))
      have e2 := HW2.out
      have hu2 : Upd Non W W2 := by rw [← e2]; exact Upd.refl.alloc _
      have hq2 : Blk W2 (w.heap.size + 1) 3 (Array.replicate n (.int .i64 0)) := by rw [← e2, ← hsz]; exact Blk.new _ _ _
      have c0' := cell_upd c0 hu2 (fun f => f)
      have hfr := Blk.frozen hq2
      obtain ⟨z, hz⟩ : ∃ z, W2.cell? ⟨w.heap.size + 1, k, none⟩ = some z := by
        rw [Blk.cell hq2]; exact ⟨_, Array.getElem?_eq_getElem (by simp; omega)⟩
      obtain ⟨W3, HW3⟩ := nm (W2.setCell ⟨w.heap.size + 1, k, none⟩ (.int .i64 1))
      have e3 := HW3.out
      have hu3 : Upd (· = w.heap.size + 1) W2 W3 := by rw [← e3]; exact updCell _ _ _ _
      have hq3 : Blk W3 (w.heap.size + 1) 3 ((Array.replicate n (.int .i64 0)).setIfInBounds k (.int .i64 1)) := by rw [← e3]; exact hq2.set_ k _
      have hi3 : Ints W3 (fun k => w.heap.size ≤ k) (some ⟨w.heap.size + 1, 0, none⟩) (exps (unitM n k)) := by
        have := Sl.of_blk (F := fun k => w.heap.size ≤ k) (show w.heap.size ≤ w.heap.size + 1 by omega) hq3 n
        rw [exps_unit]
        unfold Ints
        rw [List.map_set, List.map_replicate]
        rw [Array.toList_setIfInBounds, List.take_of_length_le (by simp)] at this
        simpa using this
      have hel : (exps (unitM n k)).length = n := by simp [exps, WdU]
      obtain ⟨W4, HW4⟩ := nm (W3.alloc (.cells #[.slice (some ⟨w.heap.size + 1, 0, none⟩) n n, .int .u64 1] 32))
      have e4 := HW4.out
      have hu4 : Upd Non W3 W4 := by rw [← e4]; exact Upd.refl.alloc _
      have hs2 : W2.heap.size = w.heap.size + 2 := by rw [← e2]; simp [hsz]
      have hs3 : W3.heap.size = w.heap.size + 2 := by rw [← e3]; simp [hs2]
      have hb4 : Blk W4 (w.heap.size + 2) 32 #[.slice (some ⟨w.heap.size + 1, 0, none⟩) n n, .int .u64 1] := by rw [← e4, ← hs3]; exact Blk.new _ _ _
      have HM : Hid (MonsV W4 (fun k => w.heap.size ≤ k) (some ⟨w.heap.size + 2, 0, none⟩) (mns [(unitM n k, 1)])) := by
        refine .inr ⟨_, _, rfl, show w.heap.size ≤ w.heap.size + 2 by omega, fun i hi => ?_⟩
        obtain rfl : i = 0 := by simpa [mns] using hi
        refine ⟨some ⟨w.heap.size + 1, 0, none⟩, n, ?_, ?_, ?_, ?_⟩
        · rw [hb4.cell]; simp [mns, hel]
        · rw [hb4.cell]; simp [mns]
        · simp [mns, hel]
        · exact hi3.upd hu4 (fun _ _ _ f => f)
      have HU5 : Upd Non w W4 := (hU.trans hu2 (fun _ _ f => f)).trans hu3 (fun i hi q => by omega) |>.trans hu4 (fun _ _ f => f)
      clear hq2 hq3 HT hb hu2 hu3 hu4 hv hpW hi3 hb4 hel
      go_enter Try.func33, Try.ntmps33
      go_wp2_with fail
      go_ret2
      refine ⟨?_, HU5⟩
      rw [HT2.out]
      exact ⟨[(unitM n k, 1)], _, _, rfl, HM.out, by simp [mns], NF.nil.mk_ (by simp) ⟨WdU n k, by show (0 : Int) < 1; decide, by show (1 : Int) < 18446744073709551616; decide⟩, Eqv.refl⟩
    · obtain rfl : v = 0 := by omega
      have HT2 : Hid (R = if op = 1 then some [(zeroM n, imm)]
        else if op = 12 then
          match (p.kids.map (tm n)).getD 0 none with
          | none => none
          | some l => if (p.kids.map (·.op)).getD 1 0 = 1 then some (scale (2 ^ shF ((p.kids.map (·.imm)).getD 1 0)) l) else none
        else match allSome (p.kids.map (tm n)) with
          | none => none
          | some l => combine n op l) := by have := HT.out; rw [if_neg hv] at this; exact this
      have HAR := Lib.hid (har rfl)
      have HNK2 := Lib.hid (HNK.out rfl)
      clear har
      go_enter Try.func33, Try.ntmps33
      go_wp2_with fail
      go_loopg [7, 8, 9, 10] m (fun g v i _ _ wr => ∃ (k : Nat) (A : Option Addr) (c : Nat) (prs : List NRow), Hid (g = m - k) ∧ k ≤ m ∧ i = .int .i64 k ∧ v = .slice A k c ∧ Hid (prs.length = k) ∧ Own wr 25 1 A k c (prs.map NRow.val) ∧ Hid (∀ j, At A j → w.heap.size < j) ∧ Hid ((p.kids.take k).map (tm n) = (prs.map NRow.l).map some) ∧ Hid (∀ x ∈ prs, x.ok n wr (fun j => w.heap.size < j ∧ ¬ At A j)) ∧ Upd Non W wr)
      case atStart => exact ⟨0, none, 0, [], rfl, by omega, rfl, rfl, rfl, Own.none_, fun j hj => (At.none_ hj).elim, by show _ = _; simp, by show ∀ _, _; simp, Upd.refl⟩
      case round =>
        obtain ⟨k, A, c, prs, Hg, hk, rfl, rfl, HL, ho, HA, HS, HP, hu⟩ := hrel
        have c0 := cell_upd c0 hu (fun f => f)
        have c1 := cell_upd c1 hu (fun f => f)
        have c2 := cell_upd c2 hu (fun f => f)
        have c4 := cell_upd c4 hu (fun f => f)
        by_cases hlt : k < m
        · have hkl : k < p.kids.length := by rw [Hm.out]; exact hlt
          obtain ⟨b, o, rfl, hF, hbw, KB, kd, h0, h1, h2, h3, h4, h5⟩ := (PtK.upd hu (fun _ _ _ f => f) p KA kc hpW).at_ hkl
          have HTK : Hid ((p.kids.take (k + 1)).map (tm n) = (p.kids.take k).map (tm n) ++ [tm n p.kids[k]]) := by
            show _ = _
            rw [take_snoc hkl, List.map_append]; rfl
          have hmem := List.getElem_mem hkl
          generalize p.kids[k] = q at *
          have C1 := Lib.hid (HI.out q hmem wr F KB kd h5 (HKW.out q hmem) (by have := Pt.kids_lt hmem; have := HPS.out; omega))
          have HQN := Lib.hid (HNK2.out q hmem)
          unfold pv at C1
          clear h5
          go_wp2_with fail
          refine C1.out.mono ?_
          rintro e w4 ⟨hret, hu4⟩
          have HU4 : Upd Non W w4 := hu.then_non hu4
          cases hq : tm n q with
          | none =>
            rw [hq] at hret
            obtain rfl : e = _ := hret
            have HR : Hid (R = none) := HQN.out hq
            clear hq
            go_wp2_with fail
            go_ret2
            exact ⟨by rw [HR.out]; rfl, hU.then_non HU4⟩
          | some l =>
            rw [hq] at hret
            obtain ⟨r, B, bc, rfl, hm4, hbc, hnf, heq⟩ := hret
            have hAl : ∀ j, At A j → j < wr.heap.size := fun j hj => ho.lt hj
            have HNE : Hid (NRow.ok n w4 (fun j => w.heap.size < j ∧ ¬ At A j) ⟨B, bc, r, l⟩) := ⟨hm4.mono (fun j _ hj => ⟨by have := hu.size; omega, fun h => by have := hAl j h; omega⟩), hbc, hnf, heq⟩
            have HQS := Lib.hid hq
            clear hq hm4 hbc hnf heq hAl
            have ho4 := ho.upd hu4 (fun _ _ f => f)
            obtain ⟨rl, Hrl⟩ := nm (mns r).length
            rw [Hrl.out]
            go_wp2_with (at_builtin; refine wpList_app rfl rfl T_monLists rfl (ho4.alloc _) rfl (Sl.new _ _ _) rfl (by simp [Value.oneCell']) (by simp only [maxLen]; omega) (by omega) ?_; intro A5 c5 w5 ho5 hu5 hat5)
            have hsw := hu.size
            have hs4 := hu4.size
            have HU5 : Upd Non W w5 := (HU4.alloc (.cells #[.slice B rl bc] 25)).trans hu5 (fun i hi h => by have := HA.out i h; omega)
            have HAt : Hid (∀ j, At A5 j → w.heap.size < j) := fun j hj => by
              rcases hat5 j hj with h | h
              · exact HA.out j h
              · rw [h]; simp; omega
            have HP5 : Hid (∀ x ∈ prs ++ [NRow.mk B bc r l], x.ok n w5 (fun j => w.heap.size < j ∧ ¬ At A5 j)) := by
              intro x hx
              have h4 : x.ok n w4 (fun j => w.heap.size < j ∧ ¬ At A j) := by
                rcases List.mem_append.1 hx with hx | hx
                · exact (HP.out x hx).upd hu4 (fun _ _ _ f => f)
                · simp only [List.mem_singleton] at hx
                  subst hx
                  exact HNE.out
              have h5 := h4.mono (G := fun j => (w.heap.size < j ∧ ¬ At A j) ∧ j < w4.heap.size) (fun j hj h => ⟨h, hj⟩)
              refine ((h5.upd (Upd.refl.alloc (S := Non) (.cells #[.slice B rl bc] 25)) (fun _ _ _ f => f)).upd hu5 (fun j _ h => h.1.2)).mono (fun j _ h => ⟨h.1.1, fun q => ?_⟩)
              rcases hat5 j q with q | q
              · exact h.1.2 q
              · have := h.2; rw [q] at this; simp at this; omega
            have HS5 : Hid ((p.kids.take (k + 1)).map (tm n) = ((prs ++ [NRow.mk B bc r l]).map NRow.l).map some) := by
              show _ = _
              rw [HTK.out, HS.out, HQS.out]
              simp
            have ho6 : Own w5 25 1 A5 (k + 1) c5 ((prs ++ [NRow.mk B bc r l]).map NRow.val) := by
              rw [List.map_append]
              show Own _ _ _ _ _ _ (_ ++ [Value.slice B (mns r).length bc])
              rw [Hrl.out]; exact ho5
            clear ho4 ho5 ho hu4 hu5 hat5 hmem h0 h1 h2 h3 h4
            go_wp2_with fail
            go_roundg (m - (k + 1))
            case measure => rw [Hg.out]; omega
            case rel => exact ⟨k + 1, A5, c5, prs ++ [NRow.mk B bc r l], rfl, by omega, by go_num, rfl, by show _ = _; simp [HL.out], ho6, HAt, HS5, HP5, HU5⟩
        · obtain rfl : m = k := by omega
          have hsw := hu.size
          have HKL : Hid (p.kids.map (tm n) = (prs.map NRow.l).map some) := by
            have h2 := HS.out
            rw [← Hm.out, List.take_length] at h2
            exact h2
          have hag : ∀ x ∈ prs, ∃ k ∈ p.kids, tm n k = some x.l := fun x hx => by
            have h1 : some x.l ∈ (prs.map NRow.l).map some := List.mem_map.2 ⟨x.l, List.mem_map.2 ⟨x, hx, rfl⟩, rfl⟩
            rw [← HKL.out] at h1
            exact List.mem_map.1 h1
          have HLN : Hid (∀ x ∈ prs, (mns x.r).length ≤ 16777216 ∧ (∀ t ∈ x.r, Ent 127 t.1) ∧ Wd n x.l) := fun x hx => by
            obtain ⟨k, hk, e⟩ := hag x hx
            obtain ⟨_, _, hnf, heq⟩ := HP.out x hx
            have hks : k.size ≤ 24 := by have := Pt.kids_lt hk; have := HPS.out; omega
            refine ⟨?_, fun t ht => ?_, tm_wd n k _ e⟩
            · rw [mns_len]
              exact Nat.le_trans (hnf.len heq) (Nat.le_trans (tm_len n k _ e) (Nat.le_trans (Nat.pow_le_pow_right (by omega) hks) (by decide)))
            · obtain ⟨s, hs, e2⟩ := hnf.mem heq t ht
              rw [← e2]
              exact (tm_ent n k _ e s hs).mono (by omega)
          have HU3 : Upd Non w wr := hU.then_non hu
          have HP3 : Hid (∀ x ∈ prs, x.ok n wr (fun j => w.heap.size ≤ j)) := fun x hx => (HP.out x hx).mono (fun j _ h => by have := h.1; omega)
          clear hag HP HS HI HKW hmk hb HT hv
          by_cases h1m : op = 1
          · subst h1m
            have HR : Hid (R = some [(zeroM n, imm)]) := HT2.out
            have hu1 := u64m_range imm
            obtain ⟨r, hr1, hr2, hr3⟩ := const_mns n hu1.1 hu1.2
            have C1 := Lib.hid (fun w => r18constant_c w (u64m imm) n hn)
            rw [hr1] at C1
            have hw1 : IntKind.u64.wrap imm = u64m imm := IntKind.wrap_u64 _
            have hr3 := hr3.trans (Eqv.one_u64 _ _)
            clear hr1 HT2 hu1
            go_wp2_with fail
            refine (C1.out _).mono ?_
            rintro e w5 ⟨RB, rc, rfl, hm5, hc5, hu5⟩
            have HUF := HU3.then_non hu5
            have hmF := hm5.mono (G := fun j => w.heap.size ≤ j) (fun j _ h => by have := hu.size; omega)
            go_wp2_with fail
            go_ret2
            refine ⟨?_, HUF⟩
            rw [HR.out]
            exact ⟨r, RB, rc, rfl, hmF, hc5, hr2, hr3⟩
          · have t1 : (op == 1) = false := by simpa using h1m
            by_cases h2 : op = 4 ∨ op = 5 ∨ op = 6
            · have hm2 : m = 2 := by
                have := HAR.out
                rcases h2 with rfl | rfl | rfl <;> exact this
              subst hm2
              have HT4 : Hid (R = combine n op (prs.map NRow.l)) := by
                have := HT2.out
                rw [if_neg h1m, if_neg (by omega), HKL.out, allSome_map] at this
                exact this
              obtain ⟨x0, x1, rfl⟩ : ∃ x0 x1, prs = [x0, x1] := by
                have h2 : prs.length = 2 := HL.out
                match prs, h2 with
                | [a, b], _ => exact ⟨a, b, rfl⟩
              obtain ⟨g, rfl⟩ := ho.some_ (by omega)
              have d0 : wr.cell? ⟨g, 0, none⟩ = some x0.val := ho.cell_ (i := 0) (by simp)
              have d1 : wr.cell? ⟨g, 1, none⟩ = some x1.val := ho.cell_ (i := 1) (by simp)
              obtain ⟨m0, k0, n0, q0⟩ := HP3.out x0 (by simp)
              obtain ⟨m1, k1, n1, q1⟩ := HP3.out x1 (by simp)
              obtain ⟨b0, s0, v0⟩ := HLN.out x0 (by simp)
              obtain ⟨b1, s1, v1⟩ := HLN.out x1 (by simp)
              obtain ⟨A0, C0, r0, l0⟩ := x0
              obtain ⟨A1, D1, r1, l1⟩ := x1
              unfold NRow.val at d0 d1
              dsimp only at d0 d1 m0 k0 n0 q0 m1 k1 n1 q1 b0 s0 b1 s1 v0 v1
              obtain ⟨wD, HwD⟩ := nm wr.drew
              have uD : Upd Non wr wD := by rw [← HwD.out]; exact Upd.refl.drew
              have hS : ∀ w', Upd Non wD w' → w'.cell? ⟨g, 0, none⟩ = some (.slice A0 (mns r0).length C0) ∧ w'.cell? ⟨g, 1, none⟩ = some (.slice A1 (mns r1).length D1) := fun w' u => ⟨cell_upd d0 (uD.then_non u) (fun f => f), cell_upd d1 (uD.then_non u) (fun f => f)⟩
              have HS := Lib.hid hS
              clear hS d0 d1
              rcases h2 with rfl | rfl | rfl
              · have HR : Hid (R = some (l0 ++ l1)) := HT4.out
                obtain ⟨r, hr1, hr2, hr3⟩ := addMul_mns 1 n0 n1
                have hr3 := hr3.trans (Eqv.append q0 (by rw [scale_one]; exact q1))
                have C1 := Lib.hid (addMultiple_c wD (fun j => w.heap.size ≤ j) A0 A1 C0 D1 (mns r0) (mns r1) 1 n (m0.upd uD (fun _ _ _ f => f)) (m1.upd uD (fun _ _ _ f => f)) (mns_lenQ n0) (mns_lenQ n1) k0 (by omega) (by omega))
                rw [hr1] at C1
                obtain ⟨y0, Hy0⟩ := nm (mns r0).length
                obtain ⟨y1, Hy1⟩ := nm (mns r1).length
                rw [Hy0.out, Hy1.out] at C1 HS
                clear hr1 HT2 HT4 m0 k0 n0 q0 m1 k1 n1 q1 ho h1m
                go_wp2_with fail
                refine wp_region_held_drew (S := fun w' => w'.cell? ⟨g, 0, none⟩ = some (.slice A0 y0 C0) ∧ w'.cell? ⟨g, 1, none⟩ = some (.slice A1 y1 D1)) (by kernel_rfl) (by rw [HwD.out]; exact HS.out _ Upd.refl) (fun hHeld => ?_)
                rw [HwD.out] at hHeld ⊢
                refine wpAnyH_take (i := 0) (v := ?_) rfl (by kernel_rfl) (by kernel_rfl) (by kernel_rfl) (fun _ _ _ h => h) (Or.inl ⟨by rfl, ?_⟩) (by assumption) ?_
                rotate_left
                · intro w hSw; (try dsimp only at hSw); go_simp; try with_reducible rfl
                try simp only [put_y]
                try simp only [Act.put]
                try simp only [put_z]
                refine wpAnyH_take (i := 1) (v := ?_) rfl (by kernel_rfl) (by kernel_rfl) (by kernel_rfl) (fun _ _ _ h => h) (Or.inl ⟨by rfl, ?_⟩) (by assumption) ?_
                rotate_left
                · intro w hSw; (try dsimp only at hSw); go_simp; try with_reducible rfl
                try simp only [put_y]
                try simp only [Act.put]
                try simp only [put_z]
                refine wpAnyH_take (i := 2) (v := ?_) rfl (by kernel_rfl) (by kernel_rfl) (by kernel_rfl) (fun _ _ _ h => h) (Or.inl ⟨by rfl, ?_⟩) (by assumption) ?_
                rotate_left
                · intro w hSw; (try dsimp only at hSw); go_simp; try with_reducible rfl
                try simp only [put_y]
                try simp only [Act.put]
                try simp only [put_z]
                refine wpAnyH_take (i := 3) (v := ?_) rfl (by kernel_rfl) (by kernel_rfl) (by kernel_rfl) (fun _ _ _ h => h) (Or.inl ⟨by rfl, ?_⟩) (by assumption) ?_
                rotate_left
                · intro w hSw; (try dsimp only at hSw); go_simp; try with_reducible rfl
                try simp only [put_y]
                try simp only [Act.put]
                try simp only [put_z]
                refine wpAnyH_take (i := 4) (v := ?_) rfl (by kernel_rfl) (by kernel_rfl) (by kernel_rfl) (fun _ _ _ h => h) (Or.inl ⟨by rfl, ?_⟩) (by assumption) ?_
                rotate_left
                · intro w hSw; (try dsimp only at hSw); go_simp; try with_reducible rfl
                try simp only [put_y]
                try simp only [Act.put]
                try simp only [put_z]
                refine wpAnyH_take (i := 5) (v := ?_) rfl (by kernel_rfl) (by kernel_rfl) (by kernel_rfl) (fun _ _ _ h => h) (Or.inl ⟨by rfl, ?_⟩) (by assumption) ?_
                rotate_left
                · intro w hSw; (try dsimp only at hSw); go_simp; try with_reducible rfl
                try simp only [put_y]
                try simp only [Act.put]
                try simp only [put_z]
                refine wpAnyH_ready (rs := [6]) (by kernel_rfl) (by simp) ?_
                refine AllReadyH.cons rfl (fun K hK => ?_) AllReadyH.nil
                go_simp
                refine C1.out.mono ?_
                rintro e w5 ⟨RB, rc, rfl, hm5, hc5, hu5⟩
                go_wp2_with fail
                refine hK.out _ _ ?_ (fun hHeld => ?_)
                · exact HS.out _ hu5
                clear hK K
                try simp only [put_y]
                try simp only [Act.put]
                try simp only [put_z]
                refine wpAnyH_take (i := 7) (v := ?_) rfl (by kernel_rfl) (by kernel_rfl) (by kernel_rfl) (fun _ _ _ h => h) (Or.inl ⟨by rfl, ?_⟩) (by assumption) ?_
                rotate_left
                · intro w hSw; (try dsimp only at hSw); go_simp; try with_reducible rfl
                try simp only [put_y]
                try simp only [Act.put]
                try simp only [put_z]
                refine wpAnyH_take (i := 8) (v := ?_) rfl (by kernel_rfl) (by kernel_rfl) (by kernel_rfl) (fun _ _ _ h => h) (Or.inl ⟨by rfl, ?_⟩) (by assumption) ?_
                rotate_left
                · intro w hSw; (try dsimp only at hSw); go_simp; try with_reducible rfl
                try simp only [put_y]
                try simp only [Act.put]
                try simp only [put_z]
                refine wpAnyH_done (by kernel_rfl) ?_ _
                have HUF := (HU3.then_non uD).then_non hu5
                have hmF := hm5.mono (G := fun j => w.heap.size ≤ j) (fun j _ h => by first | exact h.elim id (fun h => by have := HU3.size; have := uD.size; omega) | (have := HU3.size; have := uD.size; omega))
                go_wp2_with fail
                go_ret2
                refine ⟨?_, HUF⟩
                rw [HR.out]
                exact ⟨r, RB, rc, rfl, hmF, hc5, hr2, hr3⟩
              · have HR : Hid (R = some (l0 ++ scale (-1) l1)) := HT4.out
                obtain ⟨r, hr1, hr2, hr3⟩ := addMul_mns 18446744073709551615 n0 n1
                have hr3 := hr3.trans (Eqv.append q0 ((q1.scale _).trans (scale_m1 l1).1))
                have C1 := Lib.hid (addMultiple_c wD (fun j => w.heap.size ≤ j) A0 A1 C0 D1 (mns r0) (mns r1) 18446744073709551615 n (m0.upd uD (fun _ _ _ f => f)) (m1.upd uD (fun _ _ _ f => f)) (mns_lenQ n0) (mns_lenQ n1) k0 (by omega) (by omega))
                rw [hr1] at C1
                obtain ⟨y0, Hy0⟩ := nm (mns r0).length
                obtain ⟨y1, Hy1⟩ := nm (mns r1).length
                rw [Hy0.out, Hy1.out] at C1 HS
                clear hr1 HT2 HT4 m0 k0 n0 q0 m1 k1 n1 q1 ho h1m
                go_wp2_with fail
                refine wp_region_held_drew (S := fun w' => w'.cell? ⟨g, 0, none⟩ = some (.slice A0 y0 C0) ∧ w'.cell? ⟨g, 1, none⟩ = some (.slice A1 y1 D1)) (by kernel_rfl) (by rw [HwD.out]; exact HS.out _ Upd.refl) (fun hHeld => ?_)
                rw [HwD.out] at hHeld ⊢
                refine wpAnyH_take (i := 0) (v := ?_) rfl (by kernel_rfl) (by kernel_rfl) (by kernel_rfl) (fun _ _ _ h => h) (Or.inl ⟨by rfl, ?_⟩) (by assumption) ?_
                rotate_left
                · intro w hSw; (try dsimp only at hSw); go_simp; try with_reducible rfl
                try simp only [put_y]
                try simp only [Act.put]
                try simp only [put_z]
                refine wpAnyH_take (i := 1) (v := ?_) rfl (by kernel_rfl) (by kernel_rfl) (by kernel_rfl) (fun _ _ _ h => h) (Or.inl ⟨by rfl, ?_⟩) (by assumption) ?_
                rotate_left
                · intro w hSw; (try dsimp only at hSw); go_simp; try with_reducible rfl
                try simp only [put_y]
                try simp only [Act.put]
                try simp only [put_z]
                refine wpAnyH_take (i := 2) (v := ?_) rfl (by kernel_rfl) (by kernel_rfl) (by kernel_rfl) (fun _ _ _ h => h) (Or.inl ⟨by rfl, ?_⟩) (by assumption) ?_
                rotate_left
                · intro w hSw; (try dsimp only at hSw); go_simp; try with_reducible rfl
                try simp only [put_y]
                try simp only [Act.put]
                try simp only [put_z]
                refine wpAnyH_take (i := 3) (v := ?_) rfl (by kernel_rfl) (by kernel_rfl) (by kernel_rfl) (fun _ _ _ h => h) (Or.inl ⟨by rfl, ?_⟩) (by assumption) ?_
                rotate_left
                · intro w hSw; (try dsimp only at hSw); go_simp; try with_reducible rfl
                try simp only [put_y]
                try simp only [Act.put]
                try simp only [put_z]
                refine wpAnyH_take (i := 4) (v := ?_) rfl (by kernel_rfl) (by kernel_rfl) (by kernel_rfl) (fun _ _ _ h => h) (Or.inl ⟨by rfl, ?_⟩) (by assumption) ?_
                rotate_left
                · intro w hSw; (try dsimp only at hSw); go_simp; try with_reducible rfl
                try simp only [put_y]
                try simp only [Act.put]
                try simp only [put_z]
                refine wpAnyH_take (i := 5) (v := ?_) rfl (by kernel_rfl) (by kernel_rfl) (by kernel_rfl) (fun _ _ _ h => h) (Or.inl ⟨by rfl, ?_⟩) (by assumption) ?_
                rotate_left
                · intro w hSw; (try dsimp only at hSw); go_simp; try with_reducible rfl
                try simp only [put_y]
                try simp only [Act.put]
                try simp only [put_z]
                refine wpAnyH_ready (rs := [6]) (by kernel_rfl) (by simp) ?_
                refine AllReadyH.cons rfl (fun K hK => ?_) AllReadyH.nil
                go_simp
                refine C1.out.mono ?_
                rintro e w5 ⟨RB, rc, rfl, hm5, hc5, hu5⟩
                go_wp2_with fail
                refine hK.out _ _ ?_ (fun hHeld => ?_)
                · exact HS.out _ hu5
                clear hK K
                try simp only [put_y]
                try simp only [Act.put]
                try simp only [put_z]
                refine wpAnyH_take (i := 7) (v := ?_) rfl (by kernel_rfl) (by kernel_rfl) (by kernel_rfl) (fun _ _ _ h => h) (Or.inl ⟨by rfl, ?_⟩) (by assumption) ?_
                rotate_left
                · intro w hSw; (try dsimp only at hSw); go_simp; try with_reducible rfl
                try simp only [put_y]
                try simp only [Act.put]
                try simp only [put_z]
                refine wpAnyH_take (i := 8) (v := ?_) rfl (by kernel_rfl) (by kernel_rfl) (by kernel_rfl) (fun _ _ _ h => h) (Or.inl ⟨by rfl, ?_⟩) (by assumption) ?_
                rotate_left
                · intro w hSw; (try dsimp only at hSw); go_simp; try with_reducible rfl
                try simp only [put_y]
                try simp only [Act.put]
                try simp only [put_z]
                refine wpAnyH_done (by kernel_rfl) ?_ _
                have HUF := (HU3.then_non uD).then_non hu5
                have hmF := hm5.mono (G := fun j => w.heap.size ≤ j) (fun j _ h => by first | exact h.elim id (fun h => by have := HU3.size; have := uD.size; omega) | (have := HU3.size; have := uD.size; omega))
                go_wp2_with fail
                go_ret2
                refine ⟨?_, HUF⟩
                rw [HR.out]
                exact ⟨r, RB, rc, rfl, hmF, hc5, hr2, hr3⟩
              · have HR : Hid (R = some (pairs l0 l1)) := HT4.out
                obtain ⟨r, hr1, hr2, hr3⟩ := prodT_mns n0 n1 s0 s1
                have hr3 := hr3.trans (Eqv.pairs n0.wd v0 n1.wd v1 q0 q1)
                have hpr : (mns r0).length * (mns r1).length ≤ 100000000 := by
                  obtain ⟨x, y, hx, hy, hxy⟩ := two_kids HKL.out (fun k _ l h => tm_len n k l h)
                  have hx : l0.length ≤ 2 ^ x := hx
                  have hy : l1.length ≤ 2 ^ y := hy
                  have e1 : 2 ^ (x + y) ≤ 2 ^ 24 := Nat.pow_le_pow_right (by omega) (by have := HPS.out; have := HSE.out; omega)
                  have e2 := Nat.mul_le_mul (Nat.le_trans (n0.len q0) hx) (Nat.le_trans (n1.len q1) hy)
                  rw [← Nat.pow_add] at e2
                  rw [mns_len, mns_len]
                  have e3 : (2 : Nat) ^ 24 = 16777216 := by decide
                  omega
                have C1 := Lib.hid (product_c wD (fun j => w.heap.size ≤ j) (fun j => w.heap.size ≤ j) A0 A1 C0 D1 (mns r0) (mns r1) n (m0.upd uD (fun _ _ _ f => f)) (m1.upd uD (fun _ _ _ f => f)) (mns_small n0) (mns_small n1) (by omega) hpr (by omega))
                rw [hr1] at C1
                obtain ⟨y0, Hy0⟩ := nm (mns r0).length
                obtain ⟨y1, Hy1⟩ := nm (mns r1).length
                rw [Hy0.out, Hy1.out] at C1 HS
                clear hr1 HT2 HT4 m0 k0 n0 q0 m1 k1 n1 q1 ho h1m
                go_wp2_with fail
                refine wp_region_held_drew (S := fun w' => w'.cell? ⟨g, 0, none⟩ = some (.slice A0 y0 C0) ∧ w'.cell? ⟨g, 1, none⟩ = some (.slice A1 y1 D1)) (by kernel_rfl) (by rw [HwD.out]; exact HS.out _ Upd.refl) (fun hHeld => ?_)
                rw [HwD.out] at hHeld ⊢
                refine wpAnyH_take (i := 0) (v := ?_) rfl (by kernel_rfl) (by kernel_rfl) (by kernel_rfl) (fun _ _ _ h => h) (Or.inl ⟨by rfl, ?_⟩) (by assumption) ?_
                rotate_left
                · intro w hSw; (try dsimp only at hSw); go_simp; try with_reducible rfl
                try simp only [put_y]
                try simp only [Act.put]
                try simp only [put_z]
                refine wpAnyH_take (i := 1) (v := ?_) rfl (by kernel_rfl) (by kernel_rfl) (by kernel_rfl) (fun _ _ _ h => h) (Or.inl ⟨by rfl, ?_⟩) (by assumption) ?_
                rotate_left
                · intro w hSw; (try dsimp only at hSw); go_simp; try with_reducible rfl
                try simp only [put_y]
                try simp only [Act.put]
                try simp only [put_z]
                refine wpAnyH_take (i := 2) (v := ?_) rfl (by kernel_rfl) (by kernel_rfl) (by kernel_rfl) (fun _ _ _ h => h) (Or.inl ⟨by rfl, ?_⟩) (by assumption) ?_
                rotate_left
                · intro w hSw; (try dsimp only at hSw); go_simp; try with_reducible rfl
                try simp only [put_y]
                try simp only [Act.put]
                try simp only [put_z]
                refine wpAnyH_take (i := 3) (v := ?_) rfl (by kernel_rfl) (by kernel_rfl) (by kernel_rfl) (fun _ _ _ h => h) (Or.inl ⟨by rfl, ?_⟩) (by assumption) ?_
                rotate_left
                · intro w hSw; (try dsimp only at hSw); go_simp; try with_reducible rfl
                try simp only [put_y]
                try simp only [Act.put]
                try simp only [put_z]
                refine wpAnyH_take (i := 4) (v := ?_) rfl (by kernel_rfl) (by kernel_rfl) (by kernel_rfl) (fun _ _ _ h => h) (Or.inl ⟨by rfl, ?_⟩) (by assumption) ?_
                rotate_left
                · intro w hSw; (try dsimp only at hSw); go_simp; try with_reducible rfl
                try simp only [put_y]
                try simp only [Act.put]
                try simp only [put_z]
                refine wpAnyH_take (i := 5) (v := ?_) rfl (by kernel_rfl) (by kernel_rfl) (by kernel_rfl) (fun _ _ _ h => h) (Or.inl ⟨by rfl, ?_⟩) (by assumption) ?_
                rotate_left
                · intro w hSw; (try dsimp only at hSw); go_simp; try with_reducible rfl
                try simp only [put_y]
                try simp only [Act.put]
                try simp only [put_z]
                refine wpAnyH_ready (rs := [6]) (by kernel_rfl) (by simp) ?_
                refine AllReadyH.cons rfl (fun K hK => ?_) AllReadyH.nil
                go_simp
                refine C1.out.mono ?_
                rintro e w5 ⟨RB, rc, rfl, hm5, hc5, hu5⟩
                go_wp2_with fail
                refine hK.out _ _ ?_ (fun hHeld => ?_)
                · exact HS.out _ hu5
                clear hK K
                try simp only [put_y]
                try simp only [Act.put]
                try simp only [put_z]
                refine wpAnyH_take (i := 7) (v := ?_) rfl (by kernel_rfl) (by kernel_rfl) (by kernel_rfl) (fun _ _ _ h => h) (Or.inl ⟨by rfl, ?_⟩) (by assumption) ?_
                rotate_left
                · intro w hSw; (try dsimp only at hSw); go_simp; try with_reducible rfl
                try simp only [put_y]
                try simp only [Act.put]
                try simp only [put_z]
                refine wpAnyH_take (i := 8) (v := ?_) rfl (by kernel_rfl) (by kernel_rfl) (by kernel_rfl) (fun _ _ _ h => h) (Or.inl ⟨by rfl, ?_⟩) (by assumption) ?_
                rotate_left
                · intro w hSw; (try dsimp only at hSw); go_simp; try with_reducible rfl
                try simp only [put_y]
                try simp only [Act.put]
                try simp only [put_z]
                refine wpAnyH_done (by kernel_rfl) ?_ _
                have HUF := (HU3.then_non uD).then_non hu5
                have hmF := hm5.mono (G := fun j => w.heap.size ≤ j) (fun j _ h => by first | exact h.elim id (fun h => by have := HU3.size; have := uD.size; omega) | (have := HU3.size; have := uD.size; omega))
                go_wp2_with fail
                go_ret2
                refine ⟨?_, HUF⟩
                rw [HR.out]
                exact ⟨r, RB, rc, rfl, hmF, hc5, hr2, hr3⟩
            · have t4 : (op == 4) = false := by simp; omega
              have t5 : (op == 5) = false := by simp; omega
              have t6 : (op == 6) = false := by simp; omega
              by_cases h3 : op = 20 ∨ op = 21
              · have hm1 : m = 1 := by
                  have := HAR.out
                  rcases h3 with rfl | rfl <;> exact this
                subst hm1
                have HT4 : Hid (R = combine n op (prs.map NRow.l)) := by
                  have := HT2.out
                  rw [if_neg h1m, if_neg (by omega), HKL.out, allSome_map] at this
                  exact this
                obtain ⟨x0, rfl⟩ : ∃ x0, prs = [x0] := by
                  have h2 : prs.length = 1 := HL.out
                  match prs, h2 with
                  | [a], _ => exact ⟨a, rfl⟩
                obtain ⟨g, rfl⟩ := ho.some_ (by omega)
                have d0 : wr.cell? ⟨g, 0, none⟩ = some x0.val := ho.cell_ (i := 0) (by simp)
                obtain ⟨m0, k0, n0, q0⟩ := HP3.out x0 (by simp)
                obtain ⟨b0, s0, v0⟩ := HLN.out x0 (by simp)
                obtain ⟨A0, C0, r0, l0⟩ := x0
                unfold NRow.val at d0
                dsimp only at d0 m0 k0 n0 q0 b0 s0 v0
                rcases h3 with rfl | rfl
                · have HR : Hid (R = some (scale (-1) l0)) := HT4.out
                  obtain ⟨r, hr1, hr2, hr3⟩ := addMul_mns (a := []) 18446744073709551615 NF.nil n0
                  have hr3 := hr3.trans ((q0.scale _).trans (scale_m1 l0).1)
                  have C1 := Lib.hid (addMultiple_c wr (fun j => w.heap.size ≤ j) none A0 0 C0 (mns []) (mns r0) 18446744073709551615 n MonsV.nil m0 (mns_lenQ NF.nil) (mns_lenQ n0) (Nat.le_refl _) (by show 0 + _ ≤ _; omega) (by omega))
                  rw [hr1, show (mns ([] : PL)).length = 0 from rfl] at C1
                  obtain ⟨y0, Hy0⟩ := nm (mns r0).length
                  rw [Hy0.out] at C1 d0
                  clear hr1 HT2 HT4 m0 k0 n0 q0 ho h1m h2
                  go_wp2_with fail
                  refine C1.out.mono ?_
                  rintro e w5 ⟨RB, rc, rfl, hm5, hc5, hu5⟩
                  have HUF := HU3.then_non hu5
                  have hmF := hm5.mono (G := fun j => w.heap.size ≤ j) (fun j _ h => h.elim id (fun h => by have := HU3.size; omega))
                  go_wp2_with fail
                  go_ret2
                  refine ⟨?_, HUF⟩
                  rw [HR.out]
                  exact ⟨r, RB, rc, rfl, hmF, hc5, hr2, hr3⟩
                · have HR : Hid (R = some ((zeroM n, -1) :: scale (-1) l0)) := HT4.out
                  obtain ⟨rc, hc1, hc2, hc3⟩ := const_mns n (v := 18446744073709551615) (by decide) (by decide)
                  obtain ⟨r, hr1, hr2, hr3⟩ := addMul_mns (a := rc) 18446744073709551615 hc2 n0
                  have hr3 : Eqv r ((zeroM n, -1) :: scale (-1) l0) := hr3.trans (Eqv.append (b := scale 18446744073709551615 r0) (hc3.trans (show Eqv [(zeroM n, 18446744073709551615)] [(zeroM n, -1)] from fun x => by rw [coef_one, coef_one]; split <;> rfl)) ((q0.scale _).trans (scale_m1 l0).1))
                  have C0' := Lib.hid (fun w => r18constant_c w 18446744073709551615 n hn)
                  rw [hc1] at C0'
                  have hcl : (mns rc).length ≤ 1 := by rw [mns_len]; exact hc2.len hc3
                  have C1 := Lib.hid (fun (w1 : World) (u : Upd Non wr w1) A1 c1 (h : MonsV w1 (fun j => w.heap.size ≤ j) A1 (mns rc)) (hl : (mns rc).length ≤ c1) => addMultiple_c w1 (fun j => w.heap.size ≤ j) A1 A0 c1 C0 (mns rc) (mns r0) 18446744073709551615 n h (m0.upd u (fun _ _ _ f => f)) (mns_lenQ hc2) (mns_lenQ n0) hl (by omega) (by omega))
                  rw [hr1] at C1
                  obtain ⟨y0, Hy0⟩ := nm (mns r0).length
                  obtain ⟨y1, Hy1⟩ := nm (mns rc).length
                  rw [Hy0.out, Hy1.out] at C1
                  rw [Hy1.out] at C0'
                  rw [Hy0.out] at d0
                  obtain ⟨wD, HwD⟩ := nm wr.drew
                  have uD : Upd Non wr wD := by rw [← HwD.out]; exact Upd.refl.drew
                  clear hr1 HT2 HT4 m0 k0 n0 q0 ho h1m h2 hc1 hc2 hc3
                  go_wp2_with fail
                  refine wp_region_held_drew (S := fun w' => w'.cell? ⟨g, 0, none⟩ = some (.slice A0 y0 C0)) (by kernel_rfl) (by rw [HwD.out]; exact cell_upd d0 uD (fun f => f)) (fun hHeld => ?_)
                  rw [HwD.out] at hHeld ⊢
                  refine wpAnyH_take (i := 0) (v := ?_) rfl (by kernel_rfl) (by kernel_rfl) (by kernel_rfl) (fun _ _ _ h => h) (Or.inl ⟨by rfl, ?_⟩) (by assumption) ?_
                  rotate_left
                  · intro w hSw; (try dsimp only at hSw); go_simp; try with_reducible rfl
                  try simp only [put_y]
                  try simp only [Act.put]
                  try simp only [put_z]
                  refine wpAnyH_take (i := 2) (v := ?_) rfl (by kernel_rfl) (by kernel_rfl) (by kernel_rfl) (fun _ _ _ h => h) (Or.inl ⟨by rfl, ?_⟩) (by assumption) ?_
                  rotate_left
                  · intro w hSw; (try dsimp only at hSw); go_simp; try with_reducible rfl
                  try simp only [put_y]
                  try simp only [Act.put]
                  try simp only [put_z]
                  refine wpAnyH_take (i := 3) (v := ?_) rfl (by kernel_rfl) (by kernel_rfl) (by kernel_rfl) (fun _ _ _ h => h) (Or.inl ⟨by rfl, ?_⟩) (by assumption) ?_
                  rotate_left
                  · intro w hSw; (try dsimp only at hSw); go_simp; try with_reducible rfl
                  try simp only [put_y]
                  try simp only [Act.put]
                  try simp only [put_z]
                  refine wpAnyH_take (i := 4) (v := ?_) rfl (by kernel_rfl) (by kernel_rfl) (by kernel_rfl) (fun _ _ _ h => h) (Or.inl ⟨by rfl, ?_⟩) (by assumption) ?_
                  rotate_left
                  · intro w hSw; (try dsimp only at hSw); go_simp; try with_reducible rfl
                  try simp only [put_y]
                  try simp only [Act.put]
                  try simp only [put_z]
                  refine wpAnyH_ready (rs := [1]) (by kernel_rfl) (by simp) ?_
                  refine AllReadyH.cons rfl (fun K hK => ?_) AllReadyH.nil
                  go_simp
                  refine (C0'.out _).mono ?_
                  rintro e w4 ⟨RA, ra, rfl, hm4, hc4, hu4⟩
                  have u4 := uD.then_non hu4
                  go_wp2_with fail
                  refine hK.out _ _ ?_ (fun hHeld => ?_)
                  · exact cell_upd d0 u4 (fun f => f)
                  clear hK K
                  try simp only [put_y]
                  try simp only [Act.put]
                  try simp only [put_z]
                  refine wpAnyH_ready (rs := [5]) (by kernel_rfl) (by simp) ?_
                  refine AllReadyH.cons rfl (fun K hK => ?_) AllReadyH.nil
                  go_simp
                  refine (C1.out _ u4 _ _ (hm4.mono (fun j _ h => by have := HU3.size; have := uD.size; omega)) hc4).mono ?_
                  rintro e w5 ⟨RB, rc, rfl, hm5, hc5, hu5⟩
                  have u5 := u4.then_non hu5
                  go_wp2_with fail
                  refine hK.out _ _ ?_ (fun hHeld => ?_)
                  · exact cell_upd d0 u5 (fun f => f)
                  clear hK K
                  try simp only [put_y]
                  try simp only [Act.put]
                  try simp only [put_z]
                  refine wpAnyH_take (i := 6) (v := ?_) rfl (by kernel_rfl) (by kernel_rfl) (by kernel_rfl) (fun _ _ _ h => h) (Or.inl ⟨by rfl, ?_⟩) (by assumption) ?_
                  rotate_left
                  · intro w hSw; (try dsimp only at hSw); go_simp; try with_reducible rfl
                  try simp only [put_y]
                  try simp only [Act.put]
                  try simp only [put_z]
                  refine wpAnyH_take (i := 7) (v := ?_) rfl (by kernel_rfl) (by kernel_rfl) (by kernel_rfl) (fun _ _ _ h => h) (Or.inl ⟨by rfl, ?_⟩) (by assumption) ?_
                  rotate_left
                  · intro w hSw; (try dsimp only at hSw); go_simp; try with_reducible rfl
                  try simp only [put_y]
                  try simp only [Act.put]
                  try simp only [put_z]
                  refine wpAnyH_done (by kernel_rfl) ?_ _
                  have HUF := HU3.then_non u5
                  have hmF := hm5.mono (G := fun j => w.heap.size ≤ j) (fun j _ h => h.elim id (fun h => by have := HU3.size; have := u4.size; omega))
                  go_wp2_with fail
                  go_ret2
                  refine ⟨?_, HUF⟩
                  rw [HR.out]
                  exact ⟨r, RB, rc, rfl, hmF, hc5, hr2, hr3⟩
              · have t20 : (op == 20) = false := by simp; omega
                have t21 : (op == 21) = false := by simp; omega
                by_cases h12 : op = 12
                · subst h12
                  have hm2 : m = 2 := HAR.out
                  subst hm2
                  obtain ⟨x0, x1, rfl⟩ : ∃ x0 x1, prs = [x0, x1] := by
                    have h2 : prs.length = 2 := HL.out
                    match prs, h2 with
                    | [a, b], _ => exact ⟨a, b, rfl⟩
                  obtain ⟨ka, kb, hk⟩ : ∃ k0 k1, p.kids = [k0, k1] := by
                    have h2 : p.kids.length = 2 := Hm.out
                    match p.kids, h2 with
                    | [a, b], _ => exact ⟨a, b, rfl⟩
                  have hl1 : 1 < p.kids.length := by rw [hk]; simp
                  obtain ⟨b, o, rfl, hF, hbw, KB, kd, h0, h1, h2', h3', h4, h5⟩ := (PtK.upd hu (fun _ _ _ f => f) p _ kc hpW).at_ hl1
                  have q1 : p.kids[1] = kb := by simp [hk]
                  rw [q1] at h0 h1 h2' h3' h4 h5
                  rw [Nat.one_mul] at h0 h1 h2' h3' h4
                  have HT4 : Hid (R = if kb.op = 1 then some (scale (2 ^ shF kb.imm) x0.l) else none) := by
                    have h := HT2.out
                    have h2 := HKL.out
                    rw [if_neg (by omega), if_pos rfl, h2, hk] at h
                    exact h
                  obtain ⟨g, rfl⟩ := ho.some_ (by omega)
                  have d0 : wr.cell? ⟨g, 0, none⟩ = some x0.val := ho.cell_ (i := 0) (by simp)
                  obtain ⟨m0, k0, n0, q0⟩ := HP3.out x0 (by simp)
                  obtain ⟨b0, s0, v0⟩ := HLN.out x0 (by simp)
                  obtain ⟨A0, C0, r0, l0⟩ := x0
                  unfold NRow.val at d0
                  dsimp only at d0 m0 k0 n0 q0 b0 s0 v0 HT4
                  by_cases hc : kb.op = 1
                  · have HR : Hid (R = some (scale (2 ^ shF kb.imm) l0)) := by have := HT4.out; rw [if_pos hc] at this; exact this
                    have t12 : (kb.op == 1) = true := by simp [hc]
                    obtain ⟨wD, HwD⟩ := nm wr.drew
                    have uD : Upd Non wr wD := by rw [← HwD.out]; exact Upd.refl.drew
                    have HAM := Lib.hid (fun t => addMul_mns (a := []) t NF.nil n0)
                    have HQ := Lib.hid q0
                    have C1 := Lib.hid (fun t => addMultiple_c wD (fun j => w.heap.size ≤ j) none A0 0 C0 (mns []) (mns r0) t n MonsV.nil (m0.upd uD (fun _ _ _ f => f)) (mns_lenQ NF.nil) (mns_lenQ n0) (Nat.le_refl _) (by show 0 + _ ≤ _; omega) (by omega))
                    rw [show (mns ([] : PL)).length = 0 from rfl] at C1
                    obtain ⟨y0, Hy0⟩ := nm (mns r0).length
                    rw [Hy0.out] at C1 d0
                    have SS : ∀ w', Upd Non wr w' → w'.cell? ⟨g, 0, none⟩ = some (.slice A0 y0 C0) ∧ w'.cell? ⟨w.heap.size, 4, none⟩ = some (.slice (some ⟨b, o, none⟩) 2 kc) ∧ w'.cell? ⟨b, o + 5 + 2, none⟩ = some (.int .i64 kb.imm) := fun w' u =>
                      ⟨cell_upd d0 u (fun f => f), cell_upd c4 u (fun f => f), cell_upd h2' u (fun f => f)⟩
                    have HS := Lib.hid SS
                    clear HT2 HT4 m0 k0 n0 q0 ho h1m h2 h3 hk h5 h4 h3' hc SS hpW hl1 q1
                    go_wp2_with fail
                    refine wp_region_held_drew (S := fun w' => w'.cell? ⟨g, 0, none⟩ = some (.slice A0 y0 C0) ∧ w'.cell? ⟨w.heap.size, 4, none⟩ = some (.slice (some ⟨b, o, none⟩) 2 kc) ∧ w'.cell? ⟨b, o + 5 + 2, none⟩ = some (.int .i64 kb.imm)) (by kernel_rfl) (by rw [HwD.out]; exact HS.out _ uD) (fun hHeld => ?_)
                    rw [HwD.out] at hHeld ⊢
                    refine wpAnyH_take (i := 0) (v := ?_) rfl (by kernel_rfl) (by kernel_rfl) (by kernel_rfl) (fun _ _ _ h => h) (Or.inl ⟨by rfl, ?_⟩) (by assumption) ?_
                    rotate_left
                    · intro w hSw; (try dsimp only at hSw); go_simp; try with_reducible rfl
                    try simp only [put_y]
                    try simp only [Act.put]
                    try simp only [put_z]
                    refine wpAnyH_take (i := 1) (v := ?_) rfl (by kernel_rfl) (by kernel_rfl) (by kernel_rfl) (fun _ _ _ h => h) (Or.inl ⟨by rfl, ?_⟩) (by assumption) ?_
                    rotate_left
                    · intro w hSw; (try dsimp only at hSw); go_simp; try with_reducible rfl
                    try simp only [put_y]
                    try simp only [Act.put]
                    try simp only [put_z]
                    refine wpAnyH_take (i := 2) (v := ?_) rfl (by kernel_rfl) (by kernel_rfl) (by kernel_rfl) (fun _ _ _ h => h) (Or.inl ⟨by rfl, ?_⟩) (by assumption) ?_
                    rotate_left
                    · intro w hSw; (try dsimp only at hSw); go_simp; try with_reducible rfl
                    try simp only [put_y]
                    try simp only [Act.put]
                    try simp only [put_z]
                    refine wpAnyH_take (i := 3) (v := ?_) rfl (by kernel_rfl) (by kernel_rfl) (by kernel_rfl) (fun _ _ _ h => h) (Or.inl ⟨by rfl, ?_⟩) (by assumption) ?_
                    rotate_left
                    · intro w hSw; (try dsimp only at hSw); go_simp; try with_reducible rfl
                    try simp only [put_y]
                    try simp only [Act.put]
                    try simp only [put_z]
                    refine wpAnyH_take (i := 4) (v := ?_) rfl (by kernel_rfl) (by kernel_rfl) (by kernel_rfl) (fun _ _ _ h => h) (Or.inl ⟨by rfl, ?_⟩) (by assumption) ?_
                    rotate_left
                    · intro w hSw; (try dsimp only at hSw); go_simp; try with_reducible rfl
                    try simp only [put_y]
                    try simp only [Act.put]
                    try simp only [put_z]
                    refine wpAnyH_take (i := 5) (v := ?_) rfl (by kernel_rfl) (by kernel_rfl) (by kernel_rfl) (fun _ _ _ h => h) (Or.inl ⟨by rfl, ?_⟩) (by assumption) ?_
                    rotate_left
                    · intro w hSw; (try dsimp only at hSw); go_simp; try with_reducible rfl
                    try simp only [put_y]
                    try simp only [Act.put]
                    try simp only [put_z]
                    refine wpAnyH_take (i := 6) (v := ?_) rfl (by kernel_rfl) (by kernel_rfl) (by kernel_rfl) (fun _ _ _ h => h) (Or.inl ⟨by rfl, ?_⟩) (by assumption) ?_
                    rotate_left
                    · intro w hSw; (try dsimp only at hSw); go_simp; try with_reducible rfl
                    try simp only [put_y]
                    try simp only [Act.put]
                    try simp only [put_z]
                    refine wpAnyH_take (i := 7) (v := ?_) rfl (by kernel_rfl) (by kernel_rfl) (by kernel_rfl) (fun _ _ _ h => h) (Or.inl ⟨by rfl, ?_⟩) (by assumption) ?_
                    rotate_left
                    · intro w hSw; (try dsimp only at hSw); go_simp; try with_reducible rfl
                    try simp only [put_y]
                    try simp only [Act.put]
                    try simp only [put_z]
                    refine wpAnyH_take (i := 8) (v := ?_) rfl (by kernel_rfl) (by kernel_rfl) (by kernel_rfl) (fun _ _ _ h => h) (Or.inl ⟨by rfl, ?_⟩) (by assumption) ?_
                    rotate_left
                    · intro w hSw; (try dsimp only at hSw); go_simp; try with_reducible rfl
                    try simp only [put_y]
                    try simp only [Act.put]
                    try simp only [put_z]
                    refine wpAnyH_take (i := 9) (v := ?_) rfl (by kernel_rfl) (by kernel_rfl) (by kernel_rfl) (fun _ _ _ h => h) (Or.inl ⟨by rfl, ?_⟩) (by assumption) ?_
                    rotate_left
                    · intro w hSw; (try dsimp only at hSw); go_simp; try with_reducible rfl
                    try simp only [put_y]
                    try simp only [Act.put]
                    try simp only [put_z]
                    refine wpAnyH_take (i := 10) (v := ?_) rfl (by kernel_rfl) (by kernel_rfl) (by kernel_rfl) (fun _ _ _ h => h) (Or.inl ⟨by rfl, ?_⟩) (by assumption) ?_
                    rotate_left
                    · intro w hSw; (try dsimp only at hSw); go_simp; try with_reducible rfl
                    try simp only [put_y]
                    try simp only [Act.put]
                    try simp only [put_z]
                    refine wpAnyH_ready (rs := [11]) (by kernel_rfl) (by simp) ?_
                    refine AllReadyH.cons rfl (fun K hK => ?_) AllReadyH.nil
                    go_simp
                    refine (C1.out _).mono ?_
                    rintro e w5 ⟨RB, rc, rfl, hm5, hc5, hu5⟩
                    obtain ⟨r, hr1, hr2, hr3⟩ := HAM.out (IntKind.u64.wrap (2 ^ shF kb.imm))
                    have hr1 : addMul (mns []) (mns r0) (IntKind.u64.wrap (2 ^ min (IntKind.u64.wrap (bits BinOp.and IntKind.i64 kb.imm 63)).toNat 64)) = mns r := hr1
                    rw [hr1] at hm5 hc5 ⊢
                    have hr3 : Eqv r (scale (2 ^ shF kb.imm) l0) := by
                      refine hr3.trans ((HQ.out.scale _).trans ?_)
                      rw [IntKind.wrap_u64]
                      exact (Sim.scale_mod _ _).1
                    have u5 := uD.then_non hu5
                    clear hr1
                    go_wp2_with fail
                    refine hK.out _ _ ?_ (fun hHeld => ?_)
                    · exact HS.out _ u5
                    clear hK K
                    try simp only [put_y]
                    try simp only [Act.put]
                    try simp only [put_z]
                    refine wpAnyH_take (i := 12) (v := ?_) rfl (by kernel_rfl) (by kernel_rfl) (by kernel_rfl) (fun _ _ _ h => h) (Or.inl ⟨by rfl, ?_⟩) (by assumption) ?_
                    rotate_left
                    · intro w hSw; (try dsimp only at hSw); go_simp; try with_reducible rfl
                    try simp only [put_y]
                    try simp only [Act.put]
                    try simp only [put_z]
                    refine wpAnyH_take (i := 13) (v := ?_) rfl (by kernel_rfl) (by kernel_rfl) (by kernel_rfl) (fun _ _ _ h => h) (Or.inl ⟨by rfl, ?_⟩) (by assumption) ?_
                    rotate_left
                    · intro w hSw; (try dsimp only at hSw); go_simp; try with_reducible rfl
                    try simp only [put_y]
                    try simp only [Act.put]
                    try simp only [put_z]
                    refine wpAnyH_done (by kernel_rfl) ?_ _
                    have HUF := HU3.then_non u5
                    have hmF := hm5.mono (G := fun j => w.heap.size ≤ j) (fun j _ h => h.elim id (fun h => by have := HU3.size; have := uD.size; omega))
                    go_wp2_with fail
                    go_ret2
                    refine ⟨?_, HUF⟩
                    rw [HR.out]
                    exact ⟨r, RB, rc, rfl, hmF, hc5, hr2, hr3⟩
                  · have t12 : (kb.op == 1) = false := by simp [hc]
                    have HR : Hid (R = none) := by have := HT4.out; rw [if_neg hc] at this; exact this
                    clear HT2 HT4 m0 k0 n0 q0 ho h1m h2 h3 hk h5 h4 h3' hc hpW hl1 q1
                    go_wp2_with fail
                    go_ret2
                    exact ⟨by rw [HR.out]; rfl, HU3⟩
                · have t12 : (op == 12) = false := by simpa using h12
                  have HR : Hid (R = none) := by
                    have := HT2.out
                    rw [if_neg h1m, if_neg h12, HKL.out, allSome_map] at this
                    show _ = _
                    rw [this]
                    unfold combine
                    dsimp only
                    rw [if_neg (by omega), if_neg (by omega), if_neg (by omega), if_neg (by omega), if_neg (by omega)]
                  clear HT2 h1m h2 h3 h12
                  go_wp2_with fail
                  go_ret2
                  exact ⟨by rw [HR.out]; rfl, HU3⟩
end Go.Proofs.Ytnefhokojbkppaa
