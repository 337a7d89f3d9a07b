/-
  What the reference's Normalize does: it hands back the normal form of a valid pattern of sums and products.
-/
import Derived.Test.YtnefhokojbkppaaRNrm
import Derived.Test.YtnefhokojbkppaaPLaw
import Derived.Test.YtnefhokojbkppaaRVal3
namespace Go.Proofs.Ytnefhokojbkppaa
open Go.RowKit

theorem RnRet.uni {n : Nat} {w w' : World} {o : Option PL} {e : Ending} (h : RnRet n w o e w') (hl : ∀ l, o = some l → l.length ≤ 16777216) : ∃ (r : PL) (A : Option Addr) (c : Nat), e = .returned (.tuple #[.slice A (mns r).length c, .bool o.isSome]) ∧ MonsV w' (fun k => w.heap.size ≤ k) A (mns r) ∧ NzIs n o r := by
  cases o with
  | none => exact ⟨[], none, 0, h, .nil, by simp [mns], by simp [mns], fun l e => (by cases e), fun _ => rfl⟩
  | some l =>
    obtain ⟨r, A, c, rfl, h1, h2, h3, h4⟩ := h
    refine ⟨r, A, c, rfl, h1, ?_, fun m hm => by rw [mns_lenQ h3 m hm]; exact Nat.le_refl _, fun l' e => ?_, fun e => (by cases e)⟩
    · rw [mns_len]; exact Nat.le_trans (h3.len h4) (hl l rfl)
    · injection e with e; subst e; exact ⟨h3, h4⟩
theorem normF_len {p : Pt} {vars : Int} {l : PL} (h : normF p vars = some l) : l.length ≤ 16777216 := by
  unfold normF at h
  split at h
  · rename_i hv
    unfold validF at hv
    simp only [Bool.and_eq_true, decide_eq_true_eq] at hv
    exact Nat.le_trans (tm_len _ _ _ h) (Nat.le_trans (Nat.pow_le_pow_right (by omega) (show p.size ≤ 24 by omega)) (by decide))
  · cases h
set_option maxRecDepth 100000 in
set_option maxHeartbeats 4000000 in
theorem r18Normalize_c (p : Pt) (w : World) (F : Nat → Prop) (KA : Option Addr) (kc : Nat) (vars : Int) (hp : PtK w F p KA kc) (hs : p.size ≤ 1000000000000) :
    Calls Try.prog 18 #[pv p KA kc, .int .i64 vars] w fun e w' => ∃ (r : PL) (A : Option Addr) (c : Nat), e = .returned (.tuple #[.slice A (mns r).length c, .bool (normF p vars).isSome]) ∧ MonsV w' (fun k => w.heap.size ≤ k) A (mns r) ∧ NzIs vars.toNat (normF p vars) r ∧ Upd Non w w' := by
  obtain ⟨W, HW⟩ := nm (w.alloc (.cells #[.int .i64 p.v, .int .i64 p.op, .int .i64 p.imm, .int .i64 p.iv, .slice KA p.kids.length kc] 24))
  have hU : Upd Non w W := by rw [← HW.out]; exact Upd.refl.alloc _
  have hb : Blk W w.heap.size 24 #[.int .i64 p.v, .int .i64 p.op, .int .i64 p.imm, .int .i64 p.iv, .slice KA p.kids.length kc] := by rw [← HW.out]; exact Blk.new _ _ _
  have e0 := HW.out
  have hpW := PtK.upd hU (fun _ _ _ f => f) p KA kc hp
  have C1 := Lib.hid (r15Valid_c p W F KA kc vars 0 hpW hs)
  have c0 := hb.cell 0
  have c1 := hb.cell 1
  have c2 := hb.cell 2
  have c3 := hb.cell 3
  have c4 := hb.cell 4
  have hsz := hU.size
  have HNL : Hid (∀ l, normF p vars = some l → l.length ≤ 16777216) := fun l h => normF_len h
  unfold pv at C1 ⊢
  obtain ⟨R, HR⟩ := nm (normF p vars)
  rw [HR.out] at HNL ⊢
  cases hv : validF p vars 0 with
  | false =>
    have HR2 : Hid (R = none) := by show _ = _; rw [← HR.out]; unfold normF; rw [hv]; rfl
    rw [hv] at C1
    clear hv
    go_enter Try.func18, Try.ntmps18
    go_wp2_with fail
    refine C1.out.mono ?_
    rintro e w2 ⟨rfl, hu2⟩
    go_wp2_with fail
    go_ret2
    rw [HR2.out]
    exact ⟨[], none, 0, rfl, .nil, ⟨by simp [mns], by simp [mns], fun l e => (by cases e), fun _ => rfl⟩, hU.then_non hu2⟩
  | true =>
    have HR2 : Hid (R = tm vars.toNat p) := by show _ = _; rw [← HR.out]; unfold normF; rw [hv]; rfl
    rw [hv] at C1
    obtain ⟨h1, hv2⟩ : (0 ≤ vars ∧ vars ≤ 6 ∧ p.size ≤ 24) ∧ (vPt p 0 0 (List.replicate vars.toNat 0)).1 = true := by
      unfold validF at hv
      simp only [Bool.and_eq_true, decide_eq_true_eq] at hv
      exact ⟨by omega, hv.2⟩
    have hwf := wf_of_vPt p _ _ _ hv2
    rw [List.length_replicate] at hwf
    obtain ⟨g1, g2, g24⟩ := h1
    obtain ⟨n, rfl⟩ := Int.eq_ofNat_of_zero_le g1
    rw [Int.toNat_natCast] at HR2 hwf
    have C2 := Lib.hid (fun (w : World) (u : Upd Non W w) => r18normalize_c n (by omega) p w F KA kc (PtK.upd u (fun _ _ _ f => f) p KA kc hpW) hwf g24)
    unfold pv at C2
    rw [← HR2.out] at C2
    clear hv hv2 hwf hp hpW hb
    go_enter Try.func18, Try.ntmps18
    go_wp2_with fail
    refine C1.out.mono ?_
    rintro e w2 ⟨rfl, hu2⟩
    have c0 := cell_upd c0 hu2 (fun f => f)
    have c1 := cell_upd c1 hu2 (fun f => f)
    have c2 := cell_upd c2 hu2 (fun f => f)
    have c3 := cell_upd c3 hu2 (fun f => f)
    have c4 := cell_upd c4 hu2 (fun f => f)
    go_wp2_with fail
    refine (C2.out _ hu2).mono ?_
    rintro e w3 ⟨hret, hu3⟩
    obtain ⟨r, A, c, rfl, hm, hz⟩ := hret.uni HNL.out
    have hs2 := hu2.size
    have HM := Lib.hid (And.intro hm hz)
    clear hret hm hz
    go_wp2_with fail
    go_ret2
    exact ⟨r, A, c, rfl, HM.out.1.mono (fun _ _ h => by omega), HM.out.2, (hU.then_non hu2).then_non hu3⟩
end Go.Proofs.Ytnefhokojbkppaa
