/-
  What polynomial.Prove and the reference's Polynomial do: both find the same normal form, or none.
-/
import Derived.Test.YtnefhokojbkppaaRulX
import Derived.Test.YtnefhokojbkppaaRNz
import Derived.Test.YtnefhokojbkppaaPEq
import Derived.Test.YtnefhokojbkppaaEvP
namespace Go.Proofs.Ytnefhokojbkppaa
open Go.RowKit

/-- Both sides are polynomials with the same coefficients. -/
def ProveP (r : Rl) : Prop := implF r = true ∧ ∃ l l', normF r.l r.vars = some l ∧ normF r.r r.vars = some l' ∧ Eqv l l'
/-- What Prove hands back. -/
def MsIs (r : Rl) (b : Bool) (ms : List Mn) : Prop := (b = true ↔ ProveP r) ∧ (b = false → ms = []) ∧ (b = true → ∃ q, ms = mns q ∧ NzIs r.vars.toNat (normF r.l r.vars) q)
theorem imp_vars {r : Rl} (h : implF r = true) : 0 ≤ r.vars ∧ r.vars ≤ 6 := by
  unfold implF at h
  simp only [Bool.and_eq_true] at h
  have h1 := h.1.1.1.1.2
  unfold validF at h1
  simp only [Bool.and_eq_true, decide_eq_true_eq] at h1
  omega
theorem MsIs.same {r : Rl} {b b' : Bool} {ms ms' : List Mn} (h : MsIs r b ms) (g : MsIs r b' ms') : b = b' ∧ ms = ms' := by
  obtain ⟨h1, h2, h3⟩ := h
  obtain ⟨g1, g2, g3⟩ := g
  have e : b = b' := by rw [Bool.eq_iff_iff, h1, g1]
  subst e
  refine ⟨rfl, ?_⟩
  cases b with
  | false => rw [h2 rfl, g2 rfl]
  | true =>
    obtain ⟨q, rfl, z⟩ := h3 rfl
    obtain ⟨q', rfl, z'⟩ := g3 rfl
    obtain ⟨_, l, _, e, _⟩ := h1.1 rfl
    exact (same_of z z' (.inr ⟨l, l, e, e, Eqv.refl⟩)).2
theorem MsIs.small {r : Rl} {b : Bool} {ms : List Mn} (h : MsIs r b ms) : ms.length ≤ 1000000000000 ∧ ∀ m ∈ ms, m.1.length ≤ 1000000000000 := by
  obtain ⟨h1, h2, h3⟩ := h
  cases b with
  | false => rw [h2 rfl]; simp
  | true =>
    obtain ⟨q, rfl, z1, z2, _⟩ := h3 rfl
    have := imp_vars (h1.1 rfl).1
    exact ⟨by omega, fun m hm => by have := z2 m hm; omega⟩
theorem mns_inj : ∀ {a b : PL}, mns a = mns b → a = b
  | [], [], _ => rfl
  | [], _ :: _, h => by simp [mns] at h
  | _ :: _, [], h => by simp [mns] at h
  | x :: a, y :: b, h => by
    unfold mns at h
    simp only [List.map_cons, List.cons.injEq, Prod.mk.injEq] at h
    have h1 := exps_inj h.1.1
    have h2 := mns_inj (a := a) (b := b) h.2
    rw [h2, show x = y from Prod.ext h1 h.1.2]
theorem MsIs.no {r : Rl} (h : implF r = false) : MsIs r false [] := ⟨⟨fun q => (by cases q), fun q => by rw [q.1] at h; cases h⟩, fun _ => rfl, fun q => by cases q⟩
theorem MsIs.of {r : Rl} (h : implF r = true) (q1 q2 : PL) (z1 : NzIs r.vars.toNat (normF r.l r.vars) q1) (z2 : NzIs r.vars.toNat (normF r.r r.vars) q2)
    (b : Bool) (hb : ((normF r.l r.vars).isSome && ((normF r.r r.vars).isSome && decide (mns q1 = mns q2))) = b) : MsIs r b (if b then mns q1 else []) := by
  refine ⟨?_, fun e => by rw [e]; rfl, fun e => ⟨q1, by rw [e]; rfl, z1⟩⟩
  rw [← hb]
  simp only [Bool.and_eq_true, decide_eq_true_eq]
  constructor
  · rintro ⟨a1, a2, a3⟩
    obtain ⟨l, e1⟩ := Option.isSome_iff_exists.1 a1
    obtain ⟨l', e2⟩ := Option.isSome_iff_exists.1 a2
    have e3 := mns_inj a3
    subst e3
    exact ⟨h, l, l', e1, e2, (z1.2.2.1 l e1).2.symm.trans (z2.2.2.1 l' e2).2⟩
  · rintro ⟨_, l, l', e1, e2, e3⟩
    exact ⟨by rw [e1]; rfl, by rw [e2]; rfl, (same_of z1 z2 (.inr ⟨l, l', e1, e2, e3⟩)).2⟩
theorem NzIs.lens {n : Nat} {o : Option PL} {q : PL} (z : NzIs n o q) (h : o.isSome = true) : ∀ m ∈ mns q, m.1.length = n := by
  obtain ⟨l, e⟩ := Option.isSome_iff_exists.1 h
  intro m hm
  unfold mns at hm
  obtain ⟨t, ht, rfl⟩ := List.mem_map.1 hm
  show (exps t.1).length = n
  unfold exps
  rw [List.length_map]
  exact ((z.2.2.1 l e).1.ok t ht).1

set_option maxRecDepth 100000 in
set_option maxHeartbeats 4000000 in
theorem pProve_c (r : Rl) (a : RlA) (F : Nat → Prop) (w : World) (hk : RlK w F r a) (hz : RlSz r) :
    Calls Try.prog 22 #[rlv r a] w fun e w' => ∃ (ms : List Mn) (A : Option Addr) (c : Nat) (b : Bool), e = .returned (.tuple #[.slice A ms.length c, .bool b]) ∧ MsIs r b ms ∧ MonsV w' (fun k => w.heap.size ≤ k) A ms ∧ Upd Non w w' := by
  have CV := Lib.hid (fun (w' : World) (F : Nat → Prop) (h : RlK w' F r a) => rlValid_c r a F w' h hz)
  have CA := Lib.hid @normU_c
  obtain ⟨W, HW⟩ := nm (w.alloc (.cells (rlCells r a) 51))
  have hU : Upd Non w W := by rw [← HW.out]; exact Upd.refl.alloc _
  have hb : Blk W w.heap.size 51 (rlCells r a) := by rw [← HW.out]; exact Blk.new _ _ _
  have hsz : W.heap.size = w.heap.size + 1 := by rw [← HW.out]; simp
  have e0 := HW.out
  have hK := (hk.mono (G := fun k => k < w.heap.size) (fun _ h _ => h)).upd hU (fun _ _ _ f => f)
  have HC := Lib.hid (fun (w' : World) (u : Upd Non W w') => rl_cells (hb.upd u (fun f => f)))
  obtain ⟨c0, c1, c2, c3, c4, c5, c6, c7, c8, c9, c10, c11, c12, c13⟩ := HC.out W Upd.refl
  have HZ := Lib.hid hz
  have HK := Lib.hid hK
  unfold rlv rlCells at CV
  unfold rlv
  unfold rlCells at e0 ⊢
  have HN0 := Lib.hid (@MsIs.no r)
  have HN1 := Lib.hid (@MsIs.of r)
  have HIV := Lib.hid (@imp_vars r)
  obtain ⟨R, HR⟩ := nm (implF r)
  rw [HR.out] at CV HN0 HN1 HIV
  clear hk hz hK hb HR
  have CV := Lib.hid (CV.out W _ HK.out)
  go_enter Try.func22, Try.ntmps22
  go_wp2_with fail
  refine CV.out.mono ?_
  rintro e w1 ⟨rfl, u1⟩
  have hs1 := u1.size
  obtain ⟨c0, c1, c2, c3, c4, c5, c6, c7, c8, c9, c10, c11, c12, c13⟩ := HC.out _ u1
  cases R with
  | false =>
    have HM := Lib.hid (HN0.out rfl)
    have HU := hU.then_non u1
    go_wp2_with fail
    go_ret2
    exact ⟨[], none, 0, false, rfl, HM.out, .nil, HU⟩
  | true =>
    have HIX := Lib.hid (HIV.out rfl)
    have HNX := Lib.hid (HN1.out rfl)
    clear HIV HN1
    have C1 := Lib.hid (CA.out r.l w1 _ a.la a.lc r.vars (PtK.upd u1 (fun _ _ _ f => f) _ _ _ HK.out.l) HZ.out.l)
    unfold pv at C1
    clear HN0
    go_wp2_with fail
    refine C1.out.mono ?_
    rintro e w2 ⟨q1, A1, d1, rfl, hm1, z1, u2⟩
    have U2 := u1.then_non u2
    obtain ⟨c0, c1, c2, c3, c4, c5, c6, c7, c8, c9, c10, c11, c12, c13⟩ := HC.out _ U2
    have C2 := Lib.hid (CA.out r.r w2 _ a.ra a.rc r.vars (PtK.upd U2 (fun _ _ _ f => f) _ _ _ HK.out.r) HZ.out.r)
    unfold pv at C2
    have Z1 := Lib.hid z1
    clear z1 C1
    go_wp2_with fail
    refine C2.out.mono ?_
    rintro e w3 ⟨q2, A2, d2, rfl, hm2, z2, u3⟩
    have U3 := U2.then_non u3
    have Z2 := Lib.hid z2
    have HMS := Lib.hid (HNX.out q1 q2 Z1.out Z2.out)
    have HL1 := Lib.hid (Z1.out.lens)
    have HL2 := Lib.hid (Z2.out.lens)
    have hvr := HIX.out
    have hm1 := hm1.upd u3 (fun _ _ _ f => f)
    have hlen : (mns q1).length ≤ 16777216 := Z1.out.1
    obtain ⟨s1, Hs1⟩ := nm (normF r.l r.vars).isSome
    obtain ⟨s2, Hs2⟩ := nm (normF r.r r.vars).isSome
    rw [Hs1.out] at HMS HL1
    rw [Hs2.out] at HMS HL2
    rw [Hs1.out, Hs2.out]
    have HU := hU.then_non U3
    clear z2 C2 HNX
    cases s1 with
    | false =>
      have HM : Hid (MsIs r false []) := HMS.out false rfl
      go_wp2_with fail
      go_ret2
      exact ⟨[], none, 0, false, rfl, HM.out, .nil, HU⟩
    | true =>
      cases s2 with
      | false =>
        have HM : Hid (MsIs r false []) := HMS.out false rfl
        go_wp2_with fail
        go_ret2
        exact ⟨[], none, 0, false, rfl, HM.out, .nil, HU⟩
      | true =>
        have HMS2 : Hid (∀ b, decide (mns q1 = mns q2) = b → MsIs r b (if b then mns q1 else [])) := fun b h => HMS.out b (by rw [h]; rfl)
        have C3 := Lib.hid (pEqual_c w3 _ _ A1 A2 d1 d2 (mns q1) (mns q2) hm1 hm2 r.vars.toNat (HL1.out rfl) (HL2.out rfl) (by omega) (by omega))
        obtain ⟨tb, Htb⟩ := nm (decide (mns q1 = mns q2))
        rw [Htb.out] at C3
        have HM2 := Lib.hid (HMS2.out tb Htb.out)
        clear HMS HMS2 Htb
        go_wp2_with fail
        refine C3.out.mono ?_
        rintro e w4 ⟨rfl, u4⟩
        have HV := Lib.hid (hm1.upd u4 (fun _ _ _ f => f))
        have hlt := U2.size
        have hsW := hU.size
        have HV2 : Hid (MonsV w4 (fun k => w.heap.size ≤ k) A1 (mns q1)) := HV.out.mono (fun k _ h => by have h : w1.heap.size ≤ k := h; have := u1.size; omega)
        have HU := HU.then_non u4
        cases tb with
        | false =>
          have HM : Hid (MsIs r false []) := HM2.out
          go_wp2_with fail
          go_ret2
          exact ⟨[], none, 0, false, rfl, HM.out, .nil, HU⟩
        | true =>
          have HM : Hid (MsIs r true (mns q1)) := HM2.out
          go_wp2_with fail
          go_ret2
          exact ⟨mns q1, A1, d1, true, rfl, HM.out, HV2.out, HU⟩

set_option maxRecDepth 100000 in
set_option maxHeartbeats 4000000 in
theorem r18Polynomial_c (r : Rl) (a : RlA) (F : Nat → Prop) (w : World) (hk : RlK w F r a) (hz : RlSz r) :
    Calls Try.prog 23 #[rlv r a] w fun e w' => ∃ (ms : List Mn) (A : Option Addr) (c : Nat) (b : Bool), e = .returned (.tuple #[.slice A ms.length c, .bool b]) ∧ MsIs r b ms ∧ MonsV w' (fun k => w.heap.size ≤ k) A ms ∧ Upd Non w w' := by
  have CV := Lib.hid (fun (w' : World) (F : Nat → Prop) (h : RlK w' F r a) => validRule_c r a F w' h hz)
  rw [← imp_ref] at CV
  have CA := Lib.hid @r18Normalize_c
  obtain ⟨W, HW⟩ := nm (w.alloc (.cells (rlCells r a) 51))
  have hU : Upd Non w W := by rw [← HW.out]; exact Upd.refl.alloc _
  have hb : Blk W w.heap.size 51 (rlCells r a) := by rw [← HW.out]; exact Blk.new _ _ _
  have hsz : W.heap.size = w.heap.size + 1 := by rw [← HW.out]; simp
  have e0 := HW.out
  have hK := (hk.mono (G := fun k => k < w.heap.size) (fun _ h _ => h)).upd hU (fun _ _ _ f => f)
  have HC := Lib.hid (fun (w' : World) (u : Upd Non W w') => rl_cells (hb.upd u (fun f => f)))
  obtain ⟨c0, c1, c2, c3, c4, c5, c6, c7, c8, c9, c10, c11, c12, c13⟩ := HC.out W Upd.refl
  have HZ := Lib.hid hz
  have HK := Lib.hid hK
  unfold rlv rlCells at CV
  unfold rlv
  unfold rlCells at e0 ⊢
  have HN0 := Lib.hid (@MsIs.no r)
  have HN1 := Lib.hid (@MsIs.of r)
  have HIV := Lib.hid (@imp_vars r)
  obtain ⟨R, HR⟩ := nm (implF r)
  rw [HR.out] at CV HN0 HN1 HIV
  clear hk hz hK hb HR
  have CV := Lib.hid (CV.out W _ HK.out)
  go_enter Try.func23, Try.ntmps23
  go_wp2_with fail
  refine CV.out.mono ?_
  rintro e w1 ⟨rfl, u1⟩
  have hs1 := u1.size
  obtain ⟨c0, c1, c2, c3, c4, c5, c6, c7, c8, c9, c10, c11, c12, c13⟩ := HC.out _ u1
  cases R with
  | false =>
    have HM := Lib.hid (HN0.out rfl)
    have HU := hU.then_non u1
    go_wp2_with fail
    go_ret2
    exact ⟨[], none, 0, false, rfl, HM.out, .nil, HU⟩
  | true =>
    have HIX := Lib.hid (HIV.out rfl)
    have HNX := Lib.hid (HN1.out rfl)
    clear HIV HN1
    have C1 := Lib.hid (CA.out r.l w1 _ a.la a.lc r.vars (PtK.upd u1 (fun _ _ _ f => f) _ _ _ HK.out.l) HZ.out.l)
    unfold pv at C1
    clear HN0
    go_wp2_with fail
    refine C1.out.mono ?_
    rintro e w2 ⟨q1, A1, d1, rfl, hm1, z1, u2⟩
    have U2 := u1.then_non u2
    obtain ⟨c0, c1, c2, c3, c4, c5, c6, c7, c8, c9, c10, c11, c12, c13⟩ := HC.out _ U2
    have C2 := Lib.hid (CA.out r.r w2 _ a.ra a.rc r.vars (PtK.upd U2 (fun _ _ _ f => f) _ _ _ HK.out.r) HZ.out.r)
    unfold pv at C2
    have Z1 := Lib.hid z1
    clear z1 C1
    go_wp2_with fail
    refine C2.out.mono ?_
    rintro e w3 ⟨q2, A2, d2, rfl, hm2, z2, u3⟩
    have U3 := U2.then_non u3
    have Z2 := Lib.hid z2
    have HMS := Lib.hid (HNX.out q1 q2 Z1.out Z2.out)
    have HL1 := Lib.hid (Z1.out.lens)
    have HL2 := Lib.hid (Z2.out.lens)
    have hvr := HIX.out
    have hm1 := hm1.upd u3 (fun _ _ _ f => f)
    have hlen : (mns q1).length ≤ 16777216 := Z1.out.1
    obtain ⟨s1, Hs1⟩ := nm (normF r.l r.vars).isSome
    obtain ⟨s2, Hs2⟩ := nm (normF r.r r.vars).isSome
    rw [Hs1.out] at HMS HL1
    rw [Hs2.out] at HMS HL2
    rw [Hs1.out, Hs2.out]
    have HU := hU.then_non U3
    clear z2 C2 HNX
    cases s1 with
    | false =>
      have HM : Hid (MsIs r false []) := HMS.out false rfl
      go_wp2_with fail
      go_ret2
      exact ⟨[], none, 0, false, rfl, HM.out, .nil, HU⟩
    | true =>
      cases s2 with
      | false =>
        have HM : Hid (MsIs r false []) := HMS.out false rfl
        go_wp2_with fail
        go_ret2
        exact ⟨[], none, 0, false, rfl, HM.out, .nil, HU⟩
      | true =>
        have HMS2 : Hid (∀ b, decide (mns q1 = mns q2) = b → MsIs r b (if b then mns q1 else [])) := fun b h => HMS.out b (by rw [h]; rfl)
        have C3 := Lib.hid (samePoly_c w3 _ _ A1 A2 d1 d2 (mns q1) (mns q2) hm1 hm2 (fun m hm => by have := HL1.out rfl m hm; omega) (by omega))
        obtain ⟨tb, Htb⟩ := nm (decide (mns q1 = mns q2))
        rw [Htb.out] at C3
        have HM2 := Lib.hid (HMS2.out tb Htb.out)
        clear HMS HMS2 Htb
        go_wp2_with fail
        refine C3.out.mono ?_
        rintro e w4 ⟨rfl, u4⟩
        have HV := Lib.hid (hm1.upd u4 (fun _ _ _ f => f))
        have hlt := U2.size
        have hsW := hU.size
        have HV2 : Hid (MonsV w4 (fun k => w.heap.size ≤ k) A1 (mns q1)) := HV.out.mono (fun k _ h => by have h : w1.heap.size ≤ k := h; have := u1.size; omega)
        have HU := HU.then_non u4
        cases tb with
        | false =>
          have HM : Hid (MsIs r false []) := HM2.out
          go_wp2_with fail
          go_ret2
          exact ⟨[], none, 0, false, rfl, HM.out, .nil, HU⟩
        | true =>
          have HM : Hid (MsIs r true (mns q1)) := HM2.out
          go_wp2_with fail
          go_ret2
          exact ⟨mns q1, A1, d1, true, rfl, HM.out, HV2.out, HU⟩
end Go.Proofs.Ytnefhokojbkppaa
