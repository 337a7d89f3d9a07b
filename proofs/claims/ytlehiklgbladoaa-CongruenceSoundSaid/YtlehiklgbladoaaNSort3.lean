/-
  What fullingref7.nodeSort does: loops, and all together.
-/
import Derived.Test.YtlehiklgbladoaaNSort2
namespace Go.Proofs.Ytlehiklgbladoaa
open Go.RowKit

set_option maxHeartbeats 2000000 in
set_option maxRecDepth 100000 in
theorem nodeSort_25 (w : World) (F G : Nat → Prop) (LA KA KS : Option Addr) (lc kc ks : Nat) (L : List Nd) (imm : Int) (kids k : List Int) (hb : badNode 25 imm kids = false) (hL : NodesV w F LA L) (hk : Ints w F KA kids) (hK : Ints w G KS k)
    (hlen : k.length = kids.length) (hr : 0 ≤ kids.getD 0 0 ∧ kids.getD 0 0 < L.length) (hLk : ∀ nd ∈ L, nd.kids.length ≤ 1000000000000000) :
    Calls Try.prog 37 #[.slice LA L.length lc, .agg #[.int .i64 25, .int .i64 imm, .slice KA kids.length kc], .slice KS k.length ks] w fun e w' => e = .returned (.int .i64 (goodSortF L 25 imm kids k)) ∧ Upd Non w w' := by
  have hv : validImmF 25 imm = true := (badNode_no hb).2
  have hl : kids.length = 1 := by have := (badNode_no hb).1 (by decide); rw [show (arityF 25).1 = 1 from by decide] at this; omega
  have hv2 : 0 ≤ imm ∧ imm ≤ 15 := by
    have := hv
    simp [validImmF, maxImmF] at this
    omega
  rw [hl] at hlen
  obtain ⟨x, rfl⟩ : ∃ x, k = [x] := by
    match k, hlen with
    | [x], _ => exact ⟨x, rfl⟩
  obtain ⟨q, rfl⟩ : ∃ q, kids = [q] := by
    match kids, hl with
    | [q], _ => exact ⟨q, rfl⟩
  simp only [List.getD_cons_zero] at hr
  obtain ⟨p, rfl⟩ := Int.eq_ofNat_of_zero_le hr.1
  have hp : p < L.length := by omega
  have C1 := Lib.hid (arity_c 25 (w.alloc (.cells #[.int .i64 25, .int .i64 imm, .slice KA 1 kc] 24)))
  rw [show arityF 25 = (1, true) from by decide] at C1
  have C2 := Lib.hid (validImm_c 25 imm (w.alloc (.cells #[.int .i64 25, .int .i64 imm, .slice KA 1 kc] 24)))
  rw [hv] at C2
  clear hb hv hl hlen
  have hU : Upd Non w (w.alloc (.cells #[.int .i64 25, .int .i64 imm, .slice KA 1 kc] 24)) := Upd.refl.alloc _
  obtain ⟨sb, so, rfl, _, _, c0⟩ := (hK.upd hU (fun _ _ _ f => f)).at_ (k := 0) (by simp)
  obtain ⟨kb, ko, rfl, _, _, c1⟩ := (hk.upd hU (fun _ _ _ f => f)).at_ (k := 0) (by simp)
  obtain ⟨lb, lo, rfl, _, _, _, _, KP, kp, c2, _, _⟩ := (hL.upd hU (fun _ _ _ f => f)).at_ hp
  rw [Nat.add_zero] at c0 c1
  simp only [List.getElem_cons_zero] at c0 c1
  have hlp := hLk _ (List.getElem_mem hp)
  have HG : Hid (goodSortF L 25 imm [(p : Int)] [x] = if x ≠ 3 ∨ ((L[p].kids.length : Int) / 2 ≤ imm) then 0 else sortIfF (decide (imm = 0)) 1 + 1) := by
    show _ = _
    simp [goodSortF, List.getD, List.getElem?_eq_getElem hp]
  generalize L[p].kids.length = n at *
  clear hK hk hL hU hLk
  show Calls Try.prog 37 #[_, .agg #[.int .i64 25, .int .i64 imm, .slice _ 1 kc], .slice _ 1 ks] w _
  by_cases h1 : x = 3
  · have d1 : (x != 3) = false := by simpa using h1
    by_cases h2 : (n : Int) / 2 ≤ imm
    · have HG2 : Hid (goodSortF L 25 imm [(p : Int)] [x] = 0) := by show _ = _; rw [HG.out, if_pos (.inr h2)]
      have d2 : decide ((n : Int) / 2 ≤ imm) = true := by simpa using h2
      clear h1 HG
      go_enter Try.func37, Try.ntmps37
      go_wp2_with fail
      refine C1.out.mono ?_
      rintro e w1 ⟨rfl, rfl⟩
      go_wp2_with fail
      refine C2.out.mono ?_
      rintro e w1 ⟨rfl, rfl⟩
      clear C1 C2
      go_wp2_with fail
      go_quiet (fail)
      go_wp2_with fail
      go_ret
      exact ⟨by rw [HG2.out]; rfl, (Upd.refl.alloc _).drewN _⟩
    · have HG2 : Hid (goodSortF L 25 imm [(p : Int)] [x] = sortIfF (decide (imm = 0)) 1 + 1) := by show _ = _; rw [HG.out, if_neg (by rintro (h | h) <;> contradiction)]
      have d2 : decide ((n : Int) / 2 ≤ imm) = false := by simpa using h2
      have h3 : imm < (n : Int) / 2 := by omega
      have hs1 : 0 ≤ sortIfF (decide (imm = 0)) 1 ∧ sortIfF (decide (imm = 0)) 1 ≤ 1 := by unfold sortIfF; split <;> omega
      clear h1 HG h2
      go_enter Try.func37, Try.ntmps37
      go_wp2_with fail
      refine C1.out.mono ?_
      rintro e w1 ⟨rfl, rfl⟩
      go_wp2_with fail
      refine C2.out.mono ?_
      rintro e w1 ⟨rfl, rfl⟩
      clear C1 C2
      go_wp2_with fail
      go_quiet (fail)
      go_wp2_with fail
      refine (sortIf_c (decide (imm = 0)) 1 _).mono ?_
      rintro e w1 ⟨rfl, rfl⟩
      go_wp2_with fail
      go_ret
      exact ⟨by rw [HG2.out]; rfl, (Upd.refl.alloc _).drewN _⟩
  · have HG2 : Hid (goodSortF L 25 imm [(p : Int)] [x] = 0) := by show _ = _; rw [HG.out, if_pos (.inl h1)]
    have d1 : (x != 3) = true := by simpa using h1
    clear h1 HG
    go_enter Try.func37, Try.ntmps37
    go_wp2_with fail
    refine C1.out.mono ?_
    rintro e w1 ⟨rfl, rfl⟩
    go_wp2_with fail
    refine C2.out.mono ?_
    rintro e w1 ⟨rfl, rfl⟩
    clear C1 C2
    go_wp2_with fail
    go_quiet (fail)
    go_wp2_with fail
    go_ret
    exact ⟨by rw [HG2.out]; rfl, (Upd.refl.alloc _).drewN _⟩
end Go.Proofs.Ytlehiklgbladoaa
