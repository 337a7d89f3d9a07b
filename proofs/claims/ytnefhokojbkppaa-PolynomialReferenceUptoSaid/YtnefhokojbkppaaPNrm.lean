/-
  What polynomial.normalize does, for a pattern of the shape of a valid one.
-/
import Derived.Test.YtnefhokojbkppaaPMul
namespace Go.Proofs.Ytnefhokojbkppaa
open Go.RowKit

theorem T_polys : SlT Try.prog 87 63 1 8 := by
  obtain ⟨i, h1, h2, h3, h4⟩ := info_parts (show (Try.prog.info? 63).map (fun i => (i.zero, i.size, i.bytes)) = some (some (.map none), 1, 8) from by kernel_rfl)
  exact ⟨Try.underlying87, ⟨i, _, h1, h2, h3, h4, rfl⟩, by omega⟩
theorem Own.ne_poly {w : World} {e : TypeId} {size k c : Nat} {A : Option Addr} {cs : List Value} (h : Own w e size A k c cs) {b n : Nat} {l : PL} (hp : PolyAt w b n l) : ¬ At A b := by
  obtain ⟨m, ⟨es, clock, hb, _⟩, _⟩ := hp
  rcases h.cases with ⟨rfl, _⟩ | ⟨g, cur, rfl, hg, _⟩
  · exact At.none_
  · rw [At.some_]
    rintro rfl
    unfold Blk at hg
    rw [hb] at hg
    cases hg
/-- What normalize hands back. -/
def NRet (n : Nat) (w : World) (o : Option PL) (e : Ending) (w' : World) : Prop :=
  match o with
  | none => e = .returned (.tuple #[.map none, .bool false])
  | some l => ∃ r, e = .returned (.tuple #[.map (some r), .bool true]) ∧ w.heap.size ≤ r ∧ PolyAt w' r n l
theorem Sim.one_mod (k : Mon) (c : Int) : Sim [(k, c % 18446744073709551616)] [(k, c)] := ⟨fun x => by
  rw [coef_one, coef_one]
  split
  · omega
  · rfl, fun t ht => by simp only [List.mem_singleton] at ht; subst ht; exact ⟨(k, c), by simp, rfl⟩⟩
theorem Sim.scale_mod (c : Int) (l : PL) : Sim (Go.Proofs.Ytnefhokojbkppaa.scale (c % 18446744073709551616) l) (Go.Proofs.Ytnefhokojbkppaa.scale c l) := ⟨fun x => by
  rw [coef_scale, coef_scale, Int.mul_emod, Int.emod_emod_of_dvd _ (Int.dvd_refl _), ← Int.mul_emod], SubM.refl.scale2 _ _⟩
theorem scale_m1 (l : PL) : Sim (scale 18446744073709551615 l) (scale (-1) l) := by
  have h := Sim.scale_mod (-1) l
  rwa [show (-1 : Int) % 18446744073709551616 = 18446744073709551615 by decide] at h
theorem scale_one (l : PL) : scale 1 l = l := by
  unfold scale
  conv => rhs; rw [← List.map_id l]
  exact List.map_congr_left fun t _ => by simp
theorem zeroM_set (n k : Nat) : (zeroM n).set k 1 = unitM n k := rfl
theorem WdU (n k : Nat) : (unitM n k).length = n := by simp [unitM]
theorem WdZ (n : Nat) : (zeroM n).length = n := by simp [zeroM]
theorem allSome_mem : ∀ {l : List (Option PL)} {r : List PL}, allSome l = some r → ∀ x ∈ r, some x ∈ l := by
  intro l r h x hx
  rw [allSome_len h]
  exact List.mem_map.2 ⟨x, hx, rfl⟩
theorem Wd.nil (n : Nat) : Wd n [] := fun t ht => by simp at ht
theorem Wd.getD {n : Nat} {l : List PL} (h : ∀ x ∈ l, Wd n x) (i : Nat) : Wd n (l.getD i []) := by
  by_cases q : i < l.length
  · rw [getD_of q]; exact h _ (List.getElem_mem q)
  · rw [List.getD, List.getElem?_eq_none (by omega)]; exact Wd.nil n
theorem combine_wd {n : Nat} {op : Int} {l : List PL} {r : PL} (h : combine n op l = some r) (hl : ∀ x ∈ l, Wd n x) : Wd n r := by
  unfold combine at h
  have h0 := Wd.getD hl 0
  have h1 := Wd.getD hl 1
  split at h
  · injection h with h; subst h; exact h0.append h1
  · split at h
    · injection h with h; subst h; exact h0.append (h1.scale _)
    · split at h
      · injection h with h; subst h; exact h0.pairs h1
      · split at h
        · injection h with h; subst h; exact h0.scale _
        · split at h
          · injection h with h; subst h
            intro t ht
            rcases List.mem_cons.1 ht with rfl | ht
            · exact WdZ n
            · exact h0.scale _ t ht
          · cases h
theorem tm_wd (n : Nat) (p : Pt) : ∀ l, tm n p = some l → Wd n l := by
  induction p using Pt.ind with
  | h p ih =>
    intro l h
    rw [tm_eq] at h
    split at h
    · injection h with h; subst h
      intro t ht
      simp only [List.mem_singleton] at ht
      subst ht; exact WdU n _
    · split at h
      · injection h with h; subst h
        intro t ht
        simp only [List.mem_singleton] at ht
        subst ht; exact WdZ n
      · split at h
        · split at h
          · cases h
          · rename_i l0 h0
            split at h
            · injection h with h; subst h
              have : some l0 ∈ p.kids.map (tm n) := by
                rw [← h0]
                by_cases q : 0 < (p.kids.map (tm n)).length
                · rw [getD_of q]; exact List.getElem_mem q
                · rw [List.getD, List.getElem?_eq_none (by omega)] at h0; cases h0
              obtain ⟨k, hk, hk2⟩ := List.mem_map.1 this
              exact (ih k hk l0 hk2).scale _
            · cases h
        · split at h
          · cases h
          · rename_i r hr
            refine combine_wd h fun x hx => ?_
            obtain ⟨k, hk, hk2⟩ := List.mem_map.1 (allSome_mem hr x hx)
            exact ih k hk x hk2

set_option maxRecDepth 100000 in
set_option maxHeartbeats 4000000 in
theorem pnormalize_c (n : Nat) (hn : n ≤ 1000000) (p : Pt) : ∀ (w : World) (F : Nat → Prop) (KA : Option Addr) (kc : Nat), PtK w F p KA kc → WfP n p → p.size ≤ 1000000000000 →
    Calls Try.prog 25 #[pv p KA kc, .int .i64 n] w fun e w' => NRet n w (tm n p) e w' ∧ Upd Non w w' := by
  induction p using Pt.ind with
  | h p ih =>
    intro w F KA kc hp hwf hs
    have hse := Pt.size_eq p
    have hle := Pt.len_le p.kids
    rw [WfP.iff] at hwf
    obtain ⟨hv0, hvn, har, hkw⟩ := hwf
    have HI := Lib.hid ih
    have HKW := Lib.hid hkw
    have HT := Lib.hid (tm_eq n p)
    have HPS := Lib.hid hs
    have HSE := Lib.hid hse
    obtain ⟨W, HW⟩ := nm (w.alloc (.cells #[.int .i64 p.v, .int .i64 p.op, .int .i64 p.imm, .int .i64 p.iv, .slice KA p.kids.length kc] 24))
    have hU : Upd Non w W := by rw [← HW.out]; exact Upd.refl.alloc _
    have hb : Blk W w.heap.size 24 #[.int .i64 p.v, .int .i64 p.op, .int .i64 p.imm, .int .i64 p.iv, .slice KA p.kids.length kc] := by rw [← HW.out]; exact Blk.new _ _ _
    have hsz : W.heap.size = w.heap.size + 1 := by rw [← HW.out]; simp
    have e0 := HW.out
    have c0 := hb.cell 0
    have c1 := hb.cell 1
    have c2 := hb.cell 2
    have c4 := hb.cell 4
    have hpW := PtK.upd hU (fun _ _ _ f => f) p KA kc hp
    unfold pv
    obtain ⟨R, HR⟩ := nm (tm n p)
    rw [HR.out] at HT
    rw [HR.out]
    obtain ⟨v, Hv⟩ := nm p.v
    obtain ⟨op, Hop⟩ := nm p.op
    obtain ⟨imm, Him⟩ := nm p.imm
    obtain ⟨m, Hm⟩ := nm p.kids.length
    rw [Hv.out] at c0 e0 hv0 hvn har HT hb
    rw [Hop.out] at c1 e0 har HT hb
    rw [Him.out] at c2 e0 HT hb
    rw [Hm.out] at c4 e0 hle har hb
    rw [Hv.out, Hop.out, Him.out, Hm.out]
    have hm12 : m ≤ 1000000000000 := by omega
    have hmk := run_mk (P := Try.prog) T_u8s zero_u8 rfl n (by omega) (by omega)
    have hmm := @run_makeMap Try.prog
    clear ih hse hp hs hkw
    by_cases hv : 0 < v
    · have HT2 : Hid (R = some [(unitM n (v - 1).toNat, 1)]) := by show _ = _; rw [HT.out, if_pos hv]
      obtain ⟨k, rfl⟩ : ∃ k : Nat, v = (k : Int) + 1 := ⟨(v - 1).toNat, by omega⟩
      have hk1 : wrap64 ((k : Int) + 1 - 1) = (k : Int) := by unfold wrap64; omega
      have hkn : k < n := by omega
      rw [show ((k : Int) + 1 - 1).toNat = k by omega] at HT2
      obtain ⟨W2, HW2⟩ := nm (W.alloc (.cells (Array.replicate n (.int .u8 0)) 5))
      have e2 := HW2.out
      have hu2 : Upd Non W W2 := by rw [← e2]; exact Upd.refl.alloc _
      have hq2 : U8Blk W2 (w.heap.size + 1) (zeroM n) := by rw [← e2, ← hsz]; exact U8Blk.mk0 W n
      have c0' := cell_upd c0 hu2 (fun f => f)
      have hfr := Blk.frozen hq2
      obtain ⟨z, hz⟩ : ∃ z, W2.cell? ⟨w.heap.size + 1, k, none⟩ = some z := by
        rw [Blk.cell hq2]; exact ⟨_, Array.getElem?_eq_getElem (by simp [u8s, zeroM]; omega)⟩
      obtain ⟨W3, HW3⟩ := nm (W2.setCell ⟨w.heap.size + 1, k, none⟩ (.int .u8 1))
      have e3 := HW3.out
      have hu3 : Upd (· = w.heap.size + 1) W2 W3 := by rw [← e3]; exact updCell _ _ _ _
      have hq3 : U8Blk W3 (w.heap.size + 1) (unitM n k) := by rw [← e3, ← zeroM_set]; exact U8Blk.set_ hq2 k 1
      obtain ⟨W4, HW4⟩ := nm (W3.alloc (.map #[] 0))
      have e4 := HW4.out
      have hu4 : Upd Non W3 W4 := by rw [← e4]; exact Upd.refl.alloc _
      have hs2 : W2.heap.size = w.heap.size + 2 := by rw [← e2]; simp [hsz]
      have hs3 : W3.heap.size = w.heap.size + 2 := by rw [← e3]; simp [hs2]
      have hp4 : PMap W4 (w.heap.size + 2) (fun _ => none) := by rw [← e4, ← hs3]; exact PMap.new W3
      have hcv := run_kstr (c := n) (Blk.upd hq3 hu4 (fun f => f)) (show n = (unitM n k).length by rw [WdU])
      obtain ⟨w5, hst, hp5, hu5⟩ := hp4.store (P := Try.prog) Try.underlying63 Try.underlying9 (kstr (unitM n k)) 1
      have HU5 : Upd Non w w5 := ((hU.trans hu2 (fun _ _ f => f)).trans hu3 (fun i hi q => by omega) |>.trans hu4 (fun _ _ f => f)).trans hu5 (fun i hi q => by omega)
      clear hp4 hq2 hq3 HT hb hu2 hu3 hu4 hu5 hv hpW
      go_enter Try.func25, Try.ntmps25
      go_wp2_with fail
      go_ret2
      refine ⟨?_, HU5⟩
      rw [HT2.out]
      refine ⟨_, rfl, by omega, _, hp5, ?_⟩
      have hr := Reads.empty n
      have := hr.put (s := kstr (unitM n k)) (by rw [kstr_size, WdU]) (c := 1) (d := 1) (by simp)
      rwa [kx_kstr] at this
    · obtain rfl : v = 0 := by omega
      have HT2 : Hid (R = if op = 1 then some [(zeroM n, imm)]
        else if op = 12 then
          match (p.kids.map (tm n)).getD 0 none with
          | none => none
          | some l => if (p.kids.map (·.op)).getD 1 0 = 1 then some (scale (2 ^ shF ((p.kids.map (·.imm)).getD 1 0)) l) else none
        else match allSome (p.kids.map (tm n)) with
          | none => none
          | some l => combine n op l) := by have := HT.out; rw [if_neg hv] at this; exact this
      have HAR := Lib.hid (har rfl)
      clear har
      by_cases h1m : op = 1
      · subst h1m
        have HT3 : Hid (R = some [(zeroM n, imm)]) := HT2.out
        have C1 := Lib.hid (fun w => pConstant_c (imm % 18446744073709551616) n w hn (by omega))
        have hw1 : IntKind.u64.wrap imm = imm % 18446744073709551616 := IntKind.wrap_u64 _
        clear HT HT2
        go_enter Try.func25, Try.ntmps25
        go_wp2_with fail
        refine (C1.out _).mono ?_
        rintro e w2 ⟨r, rfl, hr, hp2, hu2⟩
        go_wp2_with fail
        go_ret2
        refine ⟨?_, hU.then_non hu2⟩
        rw [HT3.out]
        exact ⟨r, rfl, by omega, hp2.congr (Sim.one_mod _ _)⟩
      · by_cases h12 : op = 12
        · subst h12
          have hm2 : m = 2 := HAR.out
          subst hm2
          obtain ⟨k0, k1, hk⟩ : ∃ k0 k1, p.kids = [k0, k1] := by
            have h2 : p.kids.length = 2 := Hm.out
            match p.kids, h2 with
            | [a, b], _ => exact ⟨a, b, rfl⟩
          have hl0 : 0 < p.kids.length := by rw [hk]; simp
          have hl1 : 1 < p.kids.length := by rw [hk]; simp
          obtain ⟨b, o, rfl, hF, hbw, KB, kd, h0, h1, h2, h3, h4, h5⟩ := hpW.at_ hl0
          obtain ⟨b', o', e', hF', hbw', KB', kd', g0, g1, g2, g3, g4, g5⟩ := hpW.at_ hl1
          injection e' with e'
          injection e' with eb eo
          subst eb; subst eo
          have q0 : p.kids[0] = k0 := by simp [hk]
          have q1 : p.kids[1] = k1 := by simp [hk]
          rw [q0] at h0 h1 h2 h3 h4 h5
          rw [q1] at g0 g1 g2 g3 g4 g5
          rw [Nat.zero_mul, Nat.add_zero] at h0 h1 h2 h3 h4
          rw [Nat.one_mul] at g0 g1 g2 g3 g4
          have HT3 : Hid (R = match tm n k0 with
            | none => none
            | some l => if k1.op = 1 then some (scale (2 ^ shF k1.imm) l) else none) := by have := HT2.out; rw [hk] at this; exact this
          have hk0m : k0 ∈ p.kids := by rw [hk]; simp
          have C1 := Lib.hid (HI.out k0 hk0m W F KB kd h5 (HKW.out k0 hk0m) (by have := Pt.kids_lt hk0m; have := HPS.out; omega))
          unfold pv at C1
          clear HT HT2 hk HI HKW h1m h5 g5 g4 g3 hl0 hl1 q0 q1 hk0m
          cases hk0 : tm n k0 with
          | none =>
            rw [hk0] at C1 HT3
            clear hk0
            have HR : Hid (R = none) := HT3.out
            go_enter Try.func25, Try.ntmps25
            go_wp2_with fail
            refine C1.out.mono ?_
            rintro e w2 ⟨hret, hu2⟩
            obtain rfl : e = _ := hret
            go_wp2_with fail
            go_ret2
            exact ⟨by rw [HR.out]; rfl, hU.then_non hu2⟩
          | some l =>
            rw [hk0] at C1 HT3
            have HWD := Lib.hid (tm_wd n k0 l hk0)
            clear hk0
            have HT4 : Hid (R = if k1.op = 1 then some (scale (2 ^ shF k1.imm) l) else none) := HT3.out
            clear HT3
            by_cases hc : k1.op = 1
            · have t1 : (k1.op != 1) = false := by simp [hc]
              have HR : Hid (R = some (scale (2 ^ shF k1.imm) l)) := by have := HT4.out; rw [if_pos hc] at this; exact this
              clear HT4 hc
              go_enter Try.func25, Try.ntmps25
              go_wp2_with fail
              refine C1.out.mono ?_
              rintro e w2 ⟨⟨r, rfl, hr, hp2⟩, hu2⟩
              have hsz2 := hu2.size
              have c0 := cell_upd c0 hu2 (fun f => f)
              have c1 := cell_upd c1 hu2 (fun f => f)
              have c2 := cell_upd c2 hu2 (fun f => f)
              have c4 := cell_upd c4 hu2 (fun f => f)
              have g1 := cell_upd g1 hu2 (fun f => f)
              have g2 := cell_upd g2 hu2 (fun f => f)
              have hlr := hp2.lt
              obtain ⟨W3, HW3⟩ := nm (w2.alloc (.map #[] 0))
              have e3 := HW3.out
              have hu3 : Upd Non w2 W3 := by rw [← e3]; exact Upd.refl.alloc _
              have hp3 : PolyAt W3 w2.heap.size n [] := by rw [← e3]; exact PolyAt.new w2 n
              have c0 := cell_upd c0 hu3 (fun f => f)
              have c1 := cell_upd c1 hu3 (fun f => f)
              have c2 := cell_upd c2 hu3 (fun f => f)
              have c4 := cell_upd c4 hu3 (fun f => f)
              have g1 := cell_upd g1 hu3 (fun f => f)
              have g2 := cell_upd g2 hu3 (fun f => f)
              have C2 := Lib.hid (fun times => pAdd_c w2.heap.size r n [] l times W3 hp3 (hp2.upd hu3 (fun f => f)) (by omega))
              go_wp2_with fail
              refine (C2.out _).mono ?_
              rintro e w5 ⟨rfl, hp5, hu5⟩
              go_wp2_with fail
              go_ret2
              refine ⟨?_, ((hU.then_non hu2).then_non hu3).trans hu5 (fun i hi q => by omega)⟩
              rw [HR.out]
              refine ⟨_, rfl, by omega, hp5.congr ?_⟩
              rw [List.nil_append, IntKind.wrap_u64]
              exact Sim.scale_mod _ _
            · have t1 : (k1.op != 1) = true := by simp [hc]
              have HR : Hid (R = none) := by have := HT4.out; rw [if_neg hc] at this; exact this
              clear HT4 hc
              go_enter Try.func25, Try.ntmps25
              go_wp2_with fail
              refine C1.out.mono ?_
              rintro e w2 ⟨⟨r, rfl, hr, hp2⟩, hu2⟩
              have c0 := cell_upd c0 hu2 (fun f => f)
              have c4 := cell_upd c4 hu2 (fun f => f)
              have g1 := cell_upd g1 hu2 (fun f => f)
              go_wp2_with fail
              go_ret2
              exact ⟨by rw [HR.out]; rfl, hU.then_non hu2⟩
        ·
          have HT3 : Hid (R = match allSome (p.kids.map (tm n)) with
            | none => none
            | some l => combine n op l) := by have := HT2.out; rw [if_neg h1m, if_neg h12] at this; exact this
          have t1 : (op == 1) = false := by simpa using h1m
          have t12 : (op == 12) = false := by simpa using h12
          clear HT HT2 h1m h12
          go_enter Try.func25, Try.ntmps25
          go_wp2_with fail
          go_loopg [10, 12, 76] m (fun g v _ i wr => ∃ (k : Nat) (A : Option Addr) (c : Nat) (prs : List (Nat × PL)), Hid (g = m - k) ∧ k ≤ m ∧ i = .int .i64 k ∧ v = .slice A k c ∧ Hid (prs.length = k) ∧ Own wr 63 1 A k c (prs.map fun x => Value.map (some x.1)) ∧ Hid (∀ j, At A j → w.heap.size < j) ∧ Hid (allSome ((p.kids.take k).map (tm n)) = some (prs.map (·.2))) ∧ Hid (∀ x ∈ prs, W.heap.size ≤ x.1 ∧ PolyAt wr x.1 n x.2) ∧ Upd Non W wr)
          case atStart => exact ⟨0, none, 0, [], rfl, by omega, rfl, rfl, rfl, Own.none_, fun j hj => (At.none_ hj).elim, by show _ = _; simp [allSome], by show ∀ _, _; simp, Upd.refl⟩
          case round =>
            obtain ⟨k, A, c, prs, Hg, hk, rfl, rfl, HL, ho, HA, HS, HP, hu⟩ := hrel
            by_cases hlt : k < m
            · have hkl : k < p.kids.length := by rw [Hm.out]; exact hlt
              obtain ⟨b, o, rfl, hF, hbw, KB, kd, h0, h1, h2, h3, h4, h5⟩ := (PtK.upd hu (fun _ _ _ f => f) p KA kc hpW).at_ hkl
              have HTK : Hid ((p.kids.take (k + 1)).map (tm n) = (p.kids.take k).map (tm n) ++ [tm n p.kids[k]]) := by
                show _ = _
                rw [List.take_add_one, List.getElem?_eq_getElem hkl, List.map_append]; rfl
              have hmem := List.getElem_mem hkl
              generalize p.kids[k] = q at *
              have hqs : q.size ≤ 1000000000000 := by have := Pt.kids_lt hmem; have := HPS.out; omega
              obtain ⟨W3, HW3⟩ := nm (wr.alloc (.cells #[.int .i64 q.v, .int .i64 q.op, .int .i64 q.imm, .int .i64 q.iv, .slice KB q.kids.length kd] 24))
              have e3 := HW3.out
              have hu3 : Upd Non wr W3 := by rw [← e3]; exact Upd.refl.alloc _
              have C1 := Lib.hid (HI.out q hmem W3 F KB kd (PtK.upd hu3 (fun _ _ _ f => f) q KB kd h5) (HKW.out q hmem) hqs)
              unfold pv at C1
              have bq : Blk W3 wr.heap.size 24 #[.int .i64 q.v, .int .i64 q.op, .int .i64 q.imm, .int .i64 q.iv, .slice KB q.kids.length kd] := by rw [← e3]; exact Blk.new _ _ _
              have q0 := bq.cell 0
              have q1 := bq.cell 1
              have q2 := bq.cell 2
              have q3 := bq.cell 3
              have q4 := bq.cell 4
              clear h5 bq
              go_wp2_with fail
              refine C1.out.mono ?_
              rintro e w4 ⟨hret, hu4⟩
              have HU4 : Upd Non W w4 := (hu.trans hu3 (fun _ _ f => f)).then_non hu4
              cases hq : tm n q with
              | none =>
                rw [hq] at hret
                obtain rfl : e = _ := hret
                have HR : Hid (R = none) := by
                  have := HT3.out
                  rw [allSome_none (List.mem_map.2 ⟨q, hmem, hq⟩)] at this
                  exact this
                clear hq
                go_wp2_with fail
                go_ret2
                exact ⟨by rw [HR.out]; rfl, hU.then_non HU4⟩
              | some l =>
                rw [hq] at hret
                obtain ⟨r, rfl, hr, hp4⟩ := hret
                have hq0 := hq
                clear hq
                have ho4 := (ho.upd hu3 (fun _ _ f => f)).upd hu4 (fun _ _ f => f)
                go_wp2_with (at_builtin; refine wpList_app rfl rfl T_polys rfl (ho4.alloc _) rfl (Sl.new _ _ _) rfl (by simp [Value.oneCell']) (by simp only [maxLen]; omega) (by omega) ?_; intro A5 c5 w5 ho5 hu5 hat5)
                have hsw := hu.size
                have hs3 := hu3.size
                have hs4 := hu4.size
                have HU5 : Upd Non W w5 := (HU4.alloc (.cells #[.map (some r)] 63)).trans hu5 (fun i hi h => by have := HA.out i h; omega)
                have HAt : Hid (∀ j, At A5 j → w.heap.size < j) := fun j hj => by
                  rcases hat5 j hj with h | h
                  · exact HA.out j h
                  · rw [h]; simp; omega
                have HP5 : Hid (∀ x ∈ prs ++ [(r, l)], W.heap.size ≤ x.1 ∧ PolyAt w5 x.1 n x.2) := by
                  intro x hx
                  rcases List.mem_append.1 hx with hx | hx
                  · obtain ⟨a1, a2⟩ := HP.out x hx
                    have a4 := (a2.upd hu3 (fun f => f)).upd hu4 (fun f => f)
                    exact ⟨a1, (a4.upd (Upd.refl.alloc (S := Non) _) (fun f => f)).upd hu5 (fun h => (ho4.ne_poly a4) h)⟩
                  · simp only [List.mem_singleton] at hx
                    subst hx
                    exact ⟨by show W.heap.size ≤ r; omega, (hp4.upd (Upd.refl.alloc (S := Non) _) (fun f => f)).upd hu5 (fun h => (ho4.ne_poly hp4) h)⟩
                have HS5 : Hid (allSome ((p.kids.take (k + 1)).map (tm n)) = some ((prs ++ [(r, l)]).map (·.2))) := by
                  show _ = _
                  rw [HTK.out, allSome_snoc, HS.out, hq0]
                  simp
                have ho6 : Own w5 63 1 A5 (k + 1) c5 ((prs ++ [(r, l)]).map fun x => Value.map (some x.1)) := by simpa using ho5
                clear ho4 ho5 ho hp4 hu3 hu4 hu5 hat5 q0 q1 q2 q3 q4 hq0 hqs hmem h0 h1 h2 h3 h4
                go_wp2_with fail
                go_roundg (m - (k + 1))
                case measure => rw [Hg.out]; omega
                case rel => exact ⟨k + 1, A5, c5, prs ++ [(r, l)], rfl, by omega, by go_num, rfl, by show _ = _; simp [HL.out], ho6, HAt, HS5, HP5, HU5⟩
            · obtain rfl : m = k := by omega
              have HT4 : Hid (R = combine n op (prs.map (·.2))) := by
                have := HT3.out
                have h2 := HS.out
                rw [← Hm.out, List.take_length] at h2
                rw [h2] at this
                exact this
              have hsw := hu.size
              have c1 := cell_upd c1 hu (fun f => f)
              obtain ⟨W3, HW3⟩ := nm (wr.alloc (.map #[] 0))
              have e3 := HW3.out
              have hu3 : Upd Non wr W3 := by rw [← e3]; exact Upd.refl.alloc _
              have hs3 : W3.heap.size = wr.heap.size + 1 := by rw [← e3]; simp
              have hp3 : PolyAt W3 wr.heap.size n [] := by rw [← e3]; exact PolyAt.new wr n
              have c1 := cell_upd c1 hu3 (fun f => f)
              have HU3 : Upd Non w W3 := (hU.then_non hu).then_non hu3
              have HP3 : Hid (∀ x ∈ prs, W.heap.size ≤ x.1 ∧ x.1 < wr.heap.size ∧ PolyAt W3 x.1 n x.2) := fun x hx => ⟨(HP.out x hx).1, (HP.out x hx).2.lt, (HP.out x hx).2.upd hu3 (fun f => f)⟩
              have ho3 := ho.upd hu3 (fun _ _ f => f)
              have HWD : Hid (∀ x ∈ prs, Wd n x.2) := fun x hx => by
                obtain ⟨q, _, hq⟩ := List.mem_map.1 (allSome_mem HS.out x.2 (List.mem_map.2 ⟨x, hx, rfl⟩))
                exact tm_wd n q _ hq
              clear ho HP HT3 HS hu hpW HI HKW hmk
              by_cases h2 : op = 4 ∨ op = 5 ∨ op = 6
              · have hm2 : m = 2 := by
                  have := HAR.out
                  rcases h2 with rfl | rfl | rfl <;> exact this
                subst hm2
                obtain ⟨r0, l0, r1, l1, rfl⟩ : ∃ r0 l0 r1 l1, prs = [(r0, l0), (r1, l1)] := by
                  have h2 : prs.length = 2 := HL.out
                  match prs, h2 with
                  | [a, b], _ => exact ⟨a.1, a.2, b.1, b.2, rfl⟩
                obtain ⟨g, rfl⟩ := ho3.some_ (by omega)
                have d0 : W3.cell? ⟨g, 0, none⟩ = some (.map (some r0)) := ho3.cell_ (i := 0) (by simp)
                have d1 : W3.cell? ⟨g, 1, none⟩ = some (.map (some r1)) := ho3.cell_ (i := 1) (by simp)
                have hAg := HA.out g (At.some_.2 rfl)
                obtain ⟨_, b0, p0⟩ := HP3.out (r0, l0) (by simp)
                obtain ⟨_, b1, p1⟩ := HP3.out (r1, l1) (by simp)
                have wd0 := HWD.out (r0, l0) (by simp)
                have wd1 := HWD.out (r1, l1) (by simp)
                have hgl : g ≠ wr.heap.size := by
                  have hne := ho3.ne_poly hp3
                  rw [At.some_] at hne
                  exact fun e => hne e.symm
                dsimp only at b0 b1 p0 p1 wd0 wd1
                rcases h2 with rfl | rfl | rfl
                · have HR : Hid (R = some (l0 ++ l1)) := HT4.out
                  have C2 := Lib.hid (pAdd_c wr.heap.size r0 n [] l0 1 W3 hp3 p0 (by omega))
                  clear HT4
                  go_wp2_with fail
                  refine C2.out.mono ?_
                  rintro e w5 ⟨rfl, hp5, hu5⟩
                  have C3 := Lib.hid (pAdd_c wr.heap.size r1 n _ l1 1 w5 hp5 (p1.upd hu5 (by omega)) (by omega))
                  have d1 := cell_upd d1 hu5 (by omega)
                  go_wp2_with fail
                  refine C3.out.mono ?_
                  rintro e w6 ⟨rfl, hp6, hu6⟩
                  go_wp2_with fail
                  go_ret2
                  refine ⟨?_, (HU3.trans hu5 (fun i hi q => by omega)).trans hu6 (fun i hi q => by omega)⟩
                  rw [HR.out]
                  refine ⟨_, rfl, by omega, ?_⟩
                  rw [List.nil_append, scale_one, scale_one] at hp6
                  exact hp6
                · have HR : Hid (R = some (l0 ++ scale (-1) l1)) := HT4.out
                  have C2 := Lib.hid (pAdd_c wr.heap.size r0 n [] l0 1 W3 hp3 p0 (by omega))
                  clear HT4
                  go_wp2_with fail
                  refine C2.out.mono ?_
                  rintro e w5 ⟨rfl, hp5, hu5⟩
                  have C3 := Lib.hid (pAdd_c wr.heap.size r1 n _ l1 18446744073709551615 w5 hp5 (p1.upd hu5 (by omega)) (by omega))
                  have d1 := cell_upd d1 hu5 (by omega)
                  go_wp2_with fail
                  refine C3.out.mono ?_
                  rintro e w6 ⟨rfl, hp6, hu6⟩
                  go_wp2_with fail
                  go_ret2
                  refine ⟨?_, (HU3.trans hu5 (fun i hi q => by omega)).trans hu6 (fun i hi q => by omega)⟩
                  rw [HR.out]
                  refine ⟨_, rfl, by omega, ?_⟩
                  rw [List.nil_append, scale_one] at hp6
                  exact hp6.congr (Sim.refl.append (scale_m1 l1))
                · have HR : Hid (R = some (pairs l0 l1)) := HT4.out
                  have C2 := Lib.hid (fun (w : World) (u : Upd Non W3 w) => pMultiply_c r0 r1 n l0 l1 w (p0.upd u (fun f => f)) (p1.upd u (fun f => f)) wd0 wd1 hn)
                  clear HT4
                  go_wp2_with fail
                  obtain ⟨wD, HwD⟩ := nm W3.drew
                  have uD : Upd Non W3 wD := by rw [← HwD.out]; exact Upd.refl.drew
                  have hS : wD.cell? ⟨g, 0, none⟩ = some (.map (some r0)) ∧ wD.cell? ⟨g, 1, none⟩ = some (.map (some r1)) := ⟨cell_upd d0 uD (fun f => f), cell_upd d1 uD (fun f => f)⟩
                  refine wp_region_held_drew (S := fun w' => w'.cell? ⟨g, 0, none⟩ = some (.map (some r0)) ∧ w'.cell? ⟨g, 1, none⟩ = some (.map (some r1))) (by kernel_rfl) (by rw [HwD.out]; exact hS) (fun hHeld => ?_)
                  rw [HwD.out] at hHeld ⊢
                  refine wpAnyH_take (i := 0) (v := ?_) rfl (by kernel_rfl) (by kernel_rfl) (by kernel_rfl) (fun _ _ _ h => h) (Or.inl ⟨by rfl, ?_⟩) (by assumption) ?_
                  rotate_left
                  · intro w hSw; (try dsimp only at hSw); go_simp; try with_reducible rfl
                  try simp only [put_y]
                  try simp only [Act.put]
                  try simp only [put_z]
                  refine wpAnyH_take (i := 1) (v := ?_) rfl (by kernel_rfl) (by kernel_rfl) (by kernel_rfl) (fun _ _ _ h => h) (Or.inl ⟨by rfl, ?_⟩) (by assumption) ?_
                  rotate_left
                  · intro w hSw; (try dsimp only at hSw); go_simp; try with_reducible rfl
                  try simp only [put_y]
                  try simp only [Act.put]
                  try simp only [put_z]
                  refine wpAnyH_take (i := 2) (v := ?_) rfl (by kernel_rfl) (by kernel_rfl) (by kernel_rfl) (fun _ _ _ h => h) (Or.inl ⟨by rfl, ?_⟩) (by assumption) ?_
                  rotate_left
                  · intro w hSw; (try dsimp only at hSw); go_simp; try with_reducible rfl
                  try simp only [put_y]
                  try simp only [Act.put]
                  try simp only [put_z]
                  refine wpAnyH_take (i := 3) (v := ?_) rfl (by kernel_rfl) (by kernel_rfl) (by kernel_rfl) (fun _ _ _ h => h) (Or.inl ⟨by rfl, ?_⟩) (by assumption) ?_
                  rotate_left
                  · intro w hSw; (try dsimp only at hSw); go_simp; try with_reducible rfl
                  try simp only [put_y]
                  try simp only [Act.put]
                  try simp only [put_z]
                  refine wpAnyH_take (i := 4) (v := ?_) rfl (by kernel_rfl) (by kernel_rfl) (by kernel_rfl) (fun _ _ _ h => h) (Or.inl ⟨by rfl, ?_⟩) (by assumption) ?_
                  rotate_left
                  · intro w hSw; (try dsimp only at hSw); go_simp; try with_reducible rfl
                  try simp only [put_y]
                  try simp only [Act.put]
                  try simp only [put_z]
                  refine wpAnyH_take (i := 5) (v := ?_) rfl (by kernel_rfl) (by kernel_rfl) (by kernel_rfl) (fun _ _ _ h => h) (Or.inl ⟨by rfl, ?_⟩) (by assumption) ?_
                  rotate_left
                  · intro w hSw; (try dsimp only at hSw); go_simp; try with_reducible rfl
                  try simp only [put_y]
                  try simp only [Act.put]
                  try simp only [put_z]
                  refine wpAnyH_take (i := 6) (v := ?_) rfl (by kernel_rfl) (by kernel_rfl) (by kernel_rfl) (fun _ _ _ h => h) (Or.inl ⟨by rfl, ?_⟩) (by assumption) ?_
                  rotate_left
                  · intro w hSw; (try dsimp only at hSw); go_simp; try with_reducible rfl
                  try simp only [put_y]
                  try simp only [Act.put]
                  try simp only [put_z]
                  refine wpAnyH_ready (rs := [7]) (by kernel_rfl) (by simp) ?_
                  refine AllReadyH.cons rfl (fun K hK => ?_) AllReadyH.nil
                  go_simp
                  refine (C2.out _ uD).mono ?_
                  rintro e w5 ⟨r, rfl, hr, hp5, hu5⟩
                  go_wp2_with fail
                  refine hK.out _ _ ?_ (fun hHeld => ?_)
                  · exact ⟨cell_upd hS.1 hu5 (fun f => f), cell_upd hS.2 hu5 (fun f => f)⟩
                  clear hK K
                  try simp only [put_y]
                  try simp only [Act.put]
                  try simp only [put_z]
                  refine wpAnyH_take (i := 8) (v := ?_) rfl (by kernel_rfl) (by kernel_rfl) (by kernel_rfl) (fun _ _ _ h => h) (Or.inl ⟨by rfl, ?_⟩) (by assumption) ?_
                  rotate_left
                  · intro w hSw; (try dsimp only at hSw); go_simp; try with_reducible rfl
                  try simp only [put_y]
                  try simp only [Act.put]
                  try simp only [put_z]
                  refine wpAnyH_done (by kernel_rfl) ?_ _
                  go_wp2_with fail
                  go_ret2
                  refine ⟨?_, (HU3.then_non uD).then_non hu5⟩
                  rw [HR.out]
                  exact ⟨_, rfl, by have := uD.size; omega, hp5⟩
              · have t4 : (op == 4) = false := by simp; omega
                have t5 : (op == 5) = false := by simp; omega
                have t6 : (op == 6) = false := by simp; omega
                by_cases h3 : op = 20 ∨ op = 21
                · have hm1 : m = 1 := by
                    have := HAR.out
                    rcases h3 with rfl | rfl <;> exact this
                  subst hm1
                  obtain ⟨r0, l0, rfl⟩ : ∃ r0 l0, prs = [(r0, l0)] := by
                    have h2 : prs.length = 1 := HL.out
                    match prs, h2 with
                    | [a], _ => exact ⟨a.1, a.2, rfl⟩
                  obtain ⟨g, rfl⟩ := ho3.some_ (by omega)
                  have d0 : W3.cell? ⟨g, 0, none⟩ = some (.map (some r0)) := ho3.cell_ (i := 0) (by simp)
                  obtain ⟨_, b0, p0⟩ := HP3.out (r0, l0) (by simp)
                  have hgl : g ≠ wr.heap.size := by
                    have hne := ho3.ne_poly hp3
                    rw [At.some_] at hne
                    exact fun e => hne e.symm
                  dsimp only at b0 p0
                  rcases h3 with rfl | rfl
                  · have HR : Hid (R = some (scale (-1) l0)) := HT4.out
                    have C2 := Lib.hid (pAdd_c wr.heap.size r0 n [] l0 18446744073709551615 W3 hp3 p0 (by omega))
                    clear HT4
                    go_wp2_with fail
                    refine C2.out.mono ?_
                    rintro e w5 ⟨rfl, hp5, hu5⟩
                    go_wp2_with fail
                    go_ret2
                    refine ⟨?_, HU3.trans hu5 (fun i hi q => by omega)⟩
                    rw [HR.out]
                    refine ⟨_, rfl, by omega, hp5.congr ?_⟩
                    rw [List.nil_append]
                    exact scale_m1 l0
                  · have HR : Hid (R = some ((zeroM n, -1) :: scale (-1) l0)) := HT4.out
                    have C1 := Lib.hid (pConstant_c 18446744073709551615 n W3 hn (by omega))
                    clear HT4
                    go_wp2_with fail
                    refine C1.out.mono ?_
                    rintro e w4 ⟨rc, rfl, hrc, hpc, huc⟩
                    have C2 := Lib.hid (pAdd_c wr.heap.size rc n [] _ 1 w4 (hp3.upd huc (fun f => f)) hpc (by omega))
                    go_wp2_with fail
                    refine C2.out.mono ?_
                    rintro e w5 ⟨rfl, hp5, hu5⟩
                    have d0 := cell_upd (cell_upd d0 huc (fun f => f)) hu5 (by omega)
                    have C3 := Lib.hid (pAdd_c wr.heap.size r0 n _ l0 18446744073709551615 w5 hp5 ((p0.upd huc (fun f => f)).upd hu5 (by omega)) (by omega))
                    go_wp2_with fail
                    refine C3.out.mono ?_
                    rintro e w6 ⟨rfl, hp6, hu6⟩
                    go_wp2_with fail
                    go_ret2
                    refine ⟨?_, ((HU3.then_non huc).trans hu5 (fun i hi q => by omega)).trans hu6 (fun i hi q => by omega)⟩
                    rw [HR.out]
                    refine ⟨_, rfl, by omega, hp6.congr ?_⟩
                    rw [List.nil_append, scale_one]
                    exact Sim.append (Sim.one_mod _ (-1)) (scale_m1 l0)
                · have t20 : (op == 20) = false := by simp; omega
                  have t21 : (op == 21) = false := by simp; omega
                  have HR : Hid (R = none) := by
                    show _ = _
                    rw [HT4.out]
                    unfold combine
                    rw [if_neg (by omega), if_neg (by omega), if_neg (by omega), if_neg (by omega), if_neg (by omega)]
                  clear HT4
                  go_wp2_with fail
                  go_ret2
                  exact ⟨by rw [HR.out]; rfl, HU3⟩
end Go.Proofs.Ytnefhokojbkppaa
