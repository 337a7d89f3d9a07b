/-
  What term of chapter 18 does: the value of a monomial.
-/
import Derived.Test.YtnefhokojbkppaaSPoly
import Derived.Test.YtnefhokojbkppaaMild
namespace Go.Proofs.Ytnefhokojbkppaa
open Go.RowKit

/-- The value of a monomial's words. -/
def monV : List Int → List Int → Int
  | x :: xs, k :: ks => x ^ k.toNat * monV xs ks
  | _, _ => 1
theorem monV_step {ins es : List Int} {i : Nat} (h : i < es.length) (h2 : i < ins.length) : monV (ins.drop i) (es.drop i) = ins[i] ^ es[i].toNat * monV (ins.drop (i + 1)) (es.drop (i + 1)) := by
  rw [List.drop_eq_getElem_cons h, List.drop_eq_getElem_cons h2]
  rfl
def u64w (x : Int) : Int := x % 18446744073709551616
theorem u64_step (a x y q : Int) : u64w (IntKind.u64.wrap (a * IntKind.u64.wrap x) * (y * q)) = u64w (a * (x * y * q)) := by
  rw [IntKind.wrap_u64, IntKind.wrap_u64]
  unfold u64w
  rw [Int.mul_emod, Int.emod_emod_of_dvd _ (Int.dvd_refl _), ← Int.mul_emod, Int.mul_assoc, Int.mul_emod a, Int.mul_emod (x % 18446744073709551616), Int.emod_emod_of_dvd _ (Int.dvd_refl _), ← Int.mul_emod x, ← Int.mul_emod a, Int.mul_assoc]
theorem u64_range (a : Int) : 0 ≤ IntKind.u64.wrap a ∧ IntKind.u64.wrap a < 18446744073709551616 := by rw [IntKind.wrap_u64]; omega

set_option maxRecDepth 100000 in
set_option maxHeartbeats 4000000 in
theorem term_c (w : World) (F G : Nat → Prop) (KA AI : Option Addr) (kc ci : Nat) (es ins : List Int) (c : Int) (he : Ints w F KA es) (hi : Ints w G AI ins) (hl : es.length = ins.length) (hn : ins.length ≤ 1000000) (hes : ∀ e ∈ es, 0 ≤ e ∧ e ≤ 100) (hc : 0 ≤ c ∧ c < 18446744073709551616) :
    Calls Try.prog 14 #[.agg #[.slice KA es.length kc, .int .u64 c], .slice AI ins.length ci] w fun e w' => e = .returned (.int .u64 (u64w (c * monV ins es))) ∧ Upd Non w w' := by
  obtain ⟨W, HW⟩ := nm (w.alloc (.cells #[.slice KA es.length kc, .int .u64 c] 32))
  have hU : Upd Non w W := by rw [← HW.out]; exact Upd.refl.alloc _
  have hb : Blk W w.heap.size 32 #[.slice KA es.length kc, .int .u64 c] := by rw [← HW.out]; exact Blk.new _ _ _
  have e0 := HW.out
  have c0 := hb.cell 0
  have c1 := hb.cell 1
  have heW := he.upd hU (fun _ _ _ f => f)
  have hiW := hi.upd hU (fun _ _ _ f => f)
  have HES := Lib.hid hes
  have HST := Lib.hid (fun i h h2 => @monV_step ins es i h h2)
  obtain ⟨R, HR⟩ := nm (u64w (c * monV ins es))
  rw [HR.out]
  obtain ⟨n, Hn⟩ := nm ins.length
  have hle : es.length = n := by rw [hl, Hn.out]
  have HLE := Lib.hid hle
  rw [hle] at e0 c0 hb
  rw [Hn.out] at hn
  rw [hle, Hn.out]
  clear he hi hes hl hle
  go_enter Try.func14, Try.ntmps14
  go_wp2_with fail
  have HR0 : Hid (R = u64w (c * monV (ins.drop 0) (es.drop 0))) := HR.out.symm
  go_loopg [5, 6, 7, 8, 14] n (fun g v _ _ _ ix wr => ∃ (i : Nat) (a : Int), Hid (g = n - i) ∧ i ≤ n ∧ ix = .int .i64 i ∧ v = .int .u64 a ∧ Hid (R = u64w (a * monV (ins.drop i) (es.drop i))) ∧ 0 ≤ a ∧ a < 18446744073709551616 ∧ Upd Non W wr)
  case atStart => exact ⟨0, c, rfl, by omega, rfl, rfl, HR0, hc.1, hc.2, Upd.refl⟩
  case round =>
    obtain ⟨i, a, Hg, hk, rfl, rfl, HRi, ha0, ha1, hu⟩ := hrel
    by_cases hlt : i < n
    · have hei : i < es.length := by rw [HLE.out]; exact hlt
      have hii : i < ins.length := by rw [Hn.out]; exact hlt
      obtain ⟨b, o, rfl, hF, hbw, h0⟩ := (heW.upd hu (fun _ _ _ f => f)).at_ hei
      obtain ⟨b2, o2, rfl, hG, hbw2, g0⟩ := (hiW.upd hu (fun _ _ _ f => f)).at_ hii
      have HRs := HRi.out
      rw [HST.out i hei hii] at HRs
      have hek := HES.out _ (List.getElem_mem hei)
      generalize es[i] = z at *
      generalize ins[i] = x at *
      obtain ⟨k, hzk⟩ : ∃ k : Nat, z = (k : Int) := ⟨z.toNat, by omega⟩
      subst hzk
      rw [show ((k : Int)).toNat = k by omega] at HRs
      have hk100 : k ≤ 100 := by omega
      obtain ⟨q, Hq⟩ := nm (monV (ins.drop (i + 1)) (es.drop (i + 1)))
      rw [Hq.out] at HRs
      have HRS : Hid (R = u64w (a * (x ^ (k - 0) * q))) := HRs
      clear HRs HRi hek
      go_wp2_with fail
      go_loopg [5, 8] k (fun g2 v j wr2 => ∃ (j' : Nat) (a' : Int), Hid (g2 = k - j') ∧ j' ≤ k ∧ j = .int .i64 j' ∧ v = .int .u64 a' ∧ Hid (R = u64w (a' * (x ^ (k - j') * q))) ∧ 0 ≤ a' ∧ a' < 18446744073709551616 ∧ wr2 = wr)
      case atStart => exact ⟨0, a, rfl, by omega, rfl, rfl, HRS, ha0, ha1, rfl⟩
      case round =>
        clear HRS ha0 ha1
        obtain ⟨j, a', Hg2, hj, rfl, rfl, HRj, ha0, ha1, rfl⟩ := hrel
        by_cases hjk : j < k
        · have t1 : decide ((j : Int) < (k : Int)) = true := decide_eq_true (by omega)
          have t2 : decide ((j : Int) < 100) = true := decide_eq_true (by omega)
          have HRN : Hid (R = u64w (IntKind.u64.wrap (a' * IntKind.u64.wrap x) * (x ^ (k - (j + 1)) * q))) := by
            show _ = _
            rw [u64_step, HRj.out, show k - j = k - (j + 1) + 1 by omega, Int.pow_succ, Int.mul_comm (x ^ (k - (j + 1))) x]
          have hr := u64_range (a' * IntKind.u64.wrap x)
          clear HRj ha0 ha1 heW hiW
          go_wp2_with fail
          go_roundg (k - (j + 1))
          case measure => rw [Hg2.out]; omega
          case rel => exact ⟨j + 1, _, rfl, by omega, by go_num, rfl, HRN, hr.1, hr.2, rfl⟩
        · obtain rfl : j = k := by omega
          have t1 : decide ((j : Int) < (j : Int)) = false := decide_eq_false (by omega)
          have HRN : Hid (R = u64w (a' * monV (ins.drop (i + 1)) (es.drop (i + 1)))) := by
            show _ = _
            rw [HRj.out, Hq.out, Nat.sub_self, Int.pow_zero, Int.one_mul]
          clear HRj heW hiW
          go_wp2_with fail
          go_roundg (n - (i + 1))
          case measure => rw [Hg.out]; omega
          case rel => exact ⟨i + 1, a', rfl, by omega, by go_num, rfl, HRN, ha0, ha1, hu⟩
    · obtain rfl : n = i := by omega
      have HR2 : Hid (R = a) := by
        show _ = _
        rw [HRi.out, List.drop_eq_nil_of_le (by rw [Hn.out]; exact Nat.le_refl _)]
        unfold monV u64w
        omega
      go_wp2_with fail
      go_ret
      exact ⟨by rw [HR2.out]; rfl, hU.then_non hu⟩
end Go.Proofs.Ytnefhokojbkppaa
