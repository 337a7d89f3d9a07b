/-
  What word.Parse does: it reads a number.
-/
import Derived.Test.YtblkgjdhaibhgaaRdrL
namespace Go.Proofs.Ytblkgjdhaibhgaa
open Go.RowKit

theorem run_from_str {s : Bs} {n i : Nat} (h : s.length = n) (hi : i ≤ n) (w : World) : (Instr.slice 9 (.string (kstr s)) (some (.int .i64 (i : Int))) none none).run Try.prog w = .ok (.string (kstr (s.drop i))) w := by
  have hz : (kstr s).size = n := by rw [kstr_size, h]
  have := run_slice_string_l (P := Try.prog) w 9 (kstr s) Try.underlying9 .i64 (i : Int) (by omega) (by omega)
  rw [this, kstr_extract, kx_kstr, Int.toNat_natCast, List.take_of_length_le (by rw [List.length_drop]; omega)]
theorem run_to_str {s : Bs} {n i : Nat} (h : s.length = n) (hi : i ≤ n) (w : World) : (Instr.slice 9 (.string (kstr s)) none (some (.int .i64 (i : Int))) none).run Try.prog w = .ok (.string (kstr (s.take i))) w := by
  have hz : (kstr s).size = n := by rw [kstr_size, h]
  have := run_slice_string_h (P := Try.prog) w 9 (kstr s) Try.underlying9 .i64 (i : Int) (by omega) (by omega)
  rw [this, kstr_extract, kx_kstr]
  simp
theorem digF_snoc (l : Bs) (c : UInt8) : digF (l ++ [c]) 0 = 10 * digF l 0 + (c.toNat - 48) := by simp [digF]
theorem dig_lt : ∀ (k : Nat) (l : Bs), l.length = k → l.all isDg = true → digF l 0 < 10 ^ k
  | 0, l, h, _ => by
    have : l = [] := List.eq_nil_of_length_eq_zero h
    subst this; simp [digF]
  | k + 1, l, h, ha => by
    have hne : l ≠ [] := by intro e; subst e; simp at h
    obtain ⟨l0, c, rfl⟩ : ∃ l0 c, l = l0 ++ [c] := ⟨l.dropLast, l.getLast hne, (List.dropLast_concat_getLast hne).symm⟩
    rw [List.all_append, Bool.and_eq_true] at ha
    have := dig_lt k l0 (by simpa using h) ha.1
    have h2 : isDg c = true := by simpa using ha.2
    unfold isDg at h2
    rw [decide_eq_true_eq] at h2
    rw [digF_snoc, Nat.pow_succ]
    omega
def limF (neg : Bool) : Nat := bif neg then 9223372036854775808 else 9223372036854775807
def sgnF (neg : Bool) (n : Nat) : Int := bif neg then -(n : Int) else n
/-- What is read of a word without its sign. -/
def magF (t : Bs) (neg : Bool) : Option Int :=
  if t.length < 1 ∨ t.length > 19 ∨ (t.head? = some 48 ∧ (t.length > 1 ∨ neg = true)) then none
  else if t.all isDg then
    if digF t 0 > limF neg then none else some (sgnF neg (digF t 0))
  else none
theorem decF_eq (s : Bs) : decF s = magF (if decide (s.head? = some 45) then s.tail else s) (decide (s.head? = some 45)) := by
  unfold decF magF limF sgnF
  cases decide (s.head? = some 45) <;> rfl
theorem take_dig {t : Bs} {k : Nat} (h : k < t.length) : t.take (k + 1) = t.take k ++ [t.getD k 0] := by rw [take_snoc_ h, getD_of h]
set_option maxRecDepth 100000 in
set_option maxHeartbeats 4000000 in
theorem wParse_c (s : Bs) (w : World) (hs : s.length ≤ 1000000) :
    Calls Try.prog 65 #[.string (kstr s)] w fun e w' => e = .returned (.tuple #[.int .i64 ((decF s).getD 0), .bool (decF s).isSome]) ∧ w' = w := by
  rw [decF_eq]
  have hz0 : (kstr s).size = s.length := kstr_size s
  obtain ⟨n0, Hn0⟩ := nm s.length
  rw [Hn0.out] at hz0 hs
  have HNG : Hid (decide (s.head? = some 45) = decide (0 < n0 ∧ s.getD 0 0 = 45)) := by
    show _ = _
    rw [← Hn0.out]
    cases s with
    | nil => rfl
    | cons a r => simp
  obtain ⟨neg, Hneg⟩ := nm (decide (s.head? = some 45))
  rw [Hneg.out] at HNG
  rw [Hneg.out]
  obtain ⟨t, Ht⟩ := nm (if neg then s.tail else s)
  rw [Ht.out]
  obtain ⟨r, HR⟩ := nm (magF t neg)
  have HR1 : Hid (r = magF t neg) := HR.out.symm
  have HR := HR1
  obtain ⟨m, Hm⟩ := nm t.length
  have hz : (kstr t).size = m := by rw [kstr_size, Hm.out]
  obtain ⟨B, HB⟩ := nm (decide (m < 1 ∨ m > 19 ∨ (t.head? = some 48 ∧ (m > 1 ∨ neg = true))))
  have HMGE : Hid (magF t neg = if B = true then none else if t.all isDg then if digF t 0 > limF neg then none else some (sgnF neg (digF t 0)) else none) := by
    show _ = _
    unfold magF
    rw [← HB.out, Hm.out]
    simp only [decide_eq_true_eq]
  have hm1 : m ≤ 1000000 := by
    have := Hn0.out
    rw [← Hm.out, ← Ht.out]
    split
    · rw [List.length_tail]; omega
    · omega
  obtain ⟨z1, Hz1⟩ := nm (r.getD 0)
  obtain ⟨z2, Hz2⟩ := nm r.isSome
  rw [← HR.out, Hz1.out, Hz2.out]
  by_cases h0 : 0 < n0
  · have f0 : decide ((0 : Int) < (n0 : Int)) = true := decide_eq_true (by omega)
    have i0 := fun W => run_at_str hz0 h0 W
    rw [kx_kstr, show ((0 : Nat) : Int) = 0 from rfl] at i0
    by_cases h45 : s.getD 0 0 = 45
    · rw [h45, show ((45 : UInt8).toNat : Int) = 45 from rfl] at i0
      obtain rfl : neg = true := by rw [HNG.out]; exact decide_eq_true ⟨h0, h45⟩
      have hsl := fun W => run_from_str Hn0.out (show 1 ≤ n0 by omega) W
      have het : s.drop 1 = t := by rw [← Ht.out]; simp
      rw [het, show ((1 : Nat) : Int) = 1 from rfl] at hsl
      clear h45 HNG het Hneg
      go_enter Try.func65, Try.ntmps65
      go_upto_region 5 with fail
      go_cut [41] (fun s wx => s = .bool B ∧ wx = w)
      case first =>
        clear HMGE HR Ht
        by_cases q1 : m < 1
        · have g1 : decide ((m : Int) < 1) = true := decide_eq_true (by omega)
          obtain rfl : B = true := by rw [← HB.out]; exact decide_eq_true (.inl q1)
          clear HB
          go_wp2_with fail
          go_meet
          case rel => exact ⟨rfl, rfl⟩
        · have g1 : decide ((m : Int) < 1) = false := decide_eq_false (by omega)
          by_cases q2 : m > 19
          · have g2 : decide ((19 : Int) < (m : Int)) = true := decide_eq_true (by omega)
            obtain rfl : B = true := by rw [← HB.out]; exact decide_eq_true (.inr (.inl q2))
            clear HB
            go_wp2_with fail
            go_meet
            case rel => exact ⟨rfl, rfl⟩
          · have g2 : decide ((19 : Int) < (m : Int)) = false := decide_eq_false (by omega)
            have i3 := fun W => run_at_str hz (show 0 < m by omega) W
            rw [kx_kstr, show ((0 : Nat) : Int) = 0 from rfl] at i3
            have hh : (t.head? = some 48) ↔ (t.getD 0 0).toNat = 48 := by
              cases t with
              | nil => have := Hm.out; simp at this; omega
              | cons a r =>
                simp only [List.head?_cons, Option.some.injEq, List.getD_cons_zero]
                constructor
                · rintro rfl; rfl
                · intro e; exact UInt8.toNat_inj.1 e
            have HB2 : decide (m < 1 ∨ m > 19 ∨ ((t.getD 0 0).toNat = 48 ∧ (m > 1 ∨ true = true))) = B := by rw [← HB.out]; exact decide_eq_decide.2 (by rw [hh])
            have HB := Lib.hid HB2
            clear hh HB2
            generalize (t.getD 0 0).toNat = y at i3 HB
            by_cases q3 : y = 48
            · have g3 : ((y : Int) == 48) = true := by rw [q3]; rfl
              by_cases q4 : m > 1
              · have g4 : decide ((1 : Int) < (m : Int)) = true := decide_eq_true (by omega)
                obtain rfl : B = true := by rw [← HB.out]; exact decide_eq_true (.inr (.inr ⟨q3, .inl q4⟩))
                clear HB q3
                go_wp2_with fail
                go_meet
                case rel => exact ⟨rfl, rfl⟩
              · have g4 : decide ((1 : Int) < (m : Int)) = false := decide_eq_false (by omega)
                obtain rfl : B = true := by
                  rw [← HB.out, Bool.eq_iff_iff, decide_eq_true_eq]
                  constructor
                  · rintro (h | h | ⟨_, h | h⟩)
                    · omega
                    · omega
                    · omega
                    · exact h
                  · intro h; exact .inr (.inr ⟨q3, .inr h⟩)
                clear HB q3
                go_wp2_with fail
                go_meet
                case rel => exact ⟨rfl, rfl⟩
            · have g3 : ((y : Int) == 48) = false := by simp; omega
              obtain rfl : B = false := by rw [← HB.out]; exact decide_eq_false (by omega)
              clear HB q3
              go_wp2_with fail
              go_meet
              case rel => exact ⟨rfl, rfl⟩
      case rest =>
        obtain ⟨rfl, hwc⟩ := hcut
        have hwc2 : w = wc := hwc.symm
        subst hwc2
        cases B with
        | true =>
          have HN : Hid (magF t true = none) := by show _ = _; rw [HMGE.out, if_pos rfl]
          clear HMGE HB
          go_wp2_with fail
          go_ret2
          exact ⟨by rw [← Hz1.out, ← Hz2.out, HR.out, HN.out]; rfl, rfl⟩
        | false =>
          have HMG : Hid (magF t true = if t.all isDg then if digF t 0 > limF true then none else some (sgnF true (digF t 0)) else none) := by show _ = _; rw [HMGE.out, if_neg (by decide)]
          have hm19 : m ≤ 19 := by
            have := HB.out
            rw [decide_eq_false_iff_not] at this
            omega
          clear HMGE HB
          go_wp2_with fail
          go_loopg [6, 7] m (fun g a b wr => ∃ k : Nat, Hid (g = m - k) ∧ k ≤ m ∧ b = .int .i64 k ∧ a = .int .u64 (digF (t.take k) 0) ∧ Hid ((t.take k).all isDg = true) ∧ wr = w)
          case atStart => exact ⟨0, rfl, by omega, rfl, rfl, rfl, rfl⟩
          case round =>
            obtain ⟨k, Hg, hk, rfl, rfl, HA, hw⟩ := hrel
            subst hw
            have hlt18 := dig_lt (t.take k).length (t.take k) rfl HA.out
            have hkl : (t.take k).length = k := by rw [List.length_take, Hm.out]; omega
            rw [hkl] at hlt18
            obtain ⟨n, Hdn⟩ := nm (digF (t.take k) 0)
            rw [Hdn.out] at hlt18 ⊢
            by_cases hlt : k < m
            · have ti : decide ((k : Int) < (m : Int)) = true := decide_eq_true (by omega)
              have hn18 : n < 1000000000000000000 := by
                have : (10 : Nat) ^ k ≤ 10 ^ 18 := Nat.pow_le_pow_right (by omega) (by omega)
                omega
              have hkt : k < t.length := by rw [Hm.out]; exact hlt
              have i1 := fun W => run_at_str hz hlt W
              rw [kx_kstr] at i1
              have HT := Lib.hid (take_dig hkt)
              obtain ⟨c, Hc⟩ := nm (t.getD k 0)
              rw [Hc.out] at i1 HT
              have HD : Hid (isDg c = decide (48 ≤ c.toNat ∧ c.toNat ≤ 57)) := rfl
              have HDG := Lib.hid (digF_snoc (t.take k) c)
              rw [← HT.out, Hdn.out] at HDG
              have HAL : Hid ((t.take (k + 1)).all isDg = isDg c) := by show _ = _; rw [HT.out, List.all_append, HA.out]; simp
              have HNO : Hid (isDg c = false → magF t true = none) := fun q => by
                rw [HMG.out]
                rw [if_neg]
                intro q2
                rw [List.all_eq_true] at q2
                have : c ∈ t := by rw [← Hc.out, getD_of hkt]; exact List.getElem_mem _
                rw [q2 c this] at q; cases q
              generalize c.toNat = y at i1 HD HDG
              obtain ⟨dg, Hdg⟩ := nm (isDg c)
              rw [Hdg.out] at HD HAL HNO
              clear hlt18 hkl HT HA
              by_cases hy1 : y < 48
              · have f1 : decide ((y : Int) < 48) = true := decide_eq_true (by omega)
                obtain rfl : dg = false := by rw [HD.out]; exact decide_eq_false (by omega)
                have HN := Lib.hid (HNO.out rfl)
                clear hy1 HD HDG HAL HNO
                go_wp2_with fail
                go_ret2
                exact ⟨by rw [← Hz1.out, ← Hz2.out, HR.out, HN.out]; rfl, rfl⟩
              · have f1 : decide ((y : Int) < 48) = false := decide_eq_false (by omega)
                by_cases hy2 : 57 < y
                · have f2 : decide ((57 : Int) < (y : Int)) = true := decide_eq_true (by omega)
                  obtain rfl : dg = false := by rw [HD.out]; exact decide_eq_false (by omega)
                  have HN := Lib.hid (HNO.out rfl)
                  clear hy1 hy2 HD HDG HAL HNO
                  go_wp2_with fail
                  go_ret2
                  exact ⟨by rw [← Hz1.out, ← Hz2.out, HR.out, HN.out]; rfl, rfl⟩
                · have f2 : decide ((57 : Int) < (y : Int)) = false := decide_eq_false (by omega)
                  obtain rfl : dg = true := by rw [HD.out]; exact decide_eq_true (by omega)
                  have w1 : IntKind.u64.wrap (10 * (n : Int)) = 10 * (n : Int) := by rw [IntKind.wrap_u64]; omega
                  have w2 : IntKind.u8.wrap ((y : Int) - 48) = (y : Int) - 48 := by rw [IntKind.wrap_u8]; omega
                  have w3 : IntKind.u64.wrap ((y : Int) - 48) = (y : Int) - 48 := by rw [IntKind.wrap_u64]; omega
                  have w4 : IntKind.u64.wrap (10 * (n : Int) + ((y : Int) - 48)) = 10 * (n : Int) + ((y : Int) - 48) := by rw [IntKind.wrap_u64]; omega
                  have hy3 : 48 ≤ y := by omega
                  clear HD HNO
                  go_wp2_with fail
                  go_roundg (m - (k + 1))
                  case measure => rw [Hg.out]; omega
                  case rel => exact ⟨k + 1, rfl, by omega, by go_num, by rw [HDG.out]; congr 1; omega, HAL.out, rfl⟩
            · have HKM : Hid (m = k) := by show _ = _; omega
              have hall : t.all isDg = true := by
                have := HA.out
                rwa [List.take_of_length_le (by rw [Hm.out, HKM.out]; exact Nat.le_refl _)] at this
              have HM : Hid (magF t true = if n > limF true then none else some (sgnF true n)) := by
                show _ = _
                rw [HMG.out, if_pos hall, ← Hdn.out, List.take_of_length_le (by rw [Hm.out, HKM.out]; exact Nat.le_refl _)]
              have ti : decide ((k : Int) < (m : Int)) = false := decide_eq_false (by omega)
              have hn19 : n < 10000000000000000000 := by
                have : (10 : Nat) ^ k ≤ 10 ^ 19 := Nat.pow_le_pow_right (by omega) (by omega)
                omega
              clear hall HMG HA hlt18 hkl
              by_cases hb : n > 9223372036854775808
              · have fb : decide ((9223372036854775808 : Int) < (n : Int)) = true := decide_eq_true (by omega)
                have HN : Hid (magF t true = none) := by show _ = _; rw [HM.out, if_pos (show n > limF true from hb)]
                clear HM
                go_wp2_with fail
                go_ret2
                exact ⟨by rw [← Hz1.out, ← Hz2.out, HR.out, HN.out]; rfl, rfl⟩
              · have fb : decide ((9223372036854775808 : Int) < (n : Int)) = false := decide_eq_false (by omega)
                have HN : Hid (magF t true = some (-(n : Int))) := by show _ = _; rw [HM.out, if_neg (show ¬ n > limF true from hb)]; rfl
                have w5 : wrap64 (IntKind.u64.wrap (-(n : Int))) = -(n : Int) := by rw [wrap64, IntKind.wrap_u64]; omega
                clear HM
                go_wp2_with fail
                go_ret2
                exact ⟨by rw [← Hz1.out, ← Hz2.out, HR.out, HN.out]; show Ending.returned (.tuple #[.int .i64 (wrap64 (IntKind.u64.wrap (-(n : Int)))), .bool true]) = _; rw [w5]; rfl, rfl⟩
    · have f45 : (((s.getD 0 0).toNat : Int) == 45) = false := by
        simp only [beq_eq_false_iff_ne, ne_eq]
        intro e
        exact h45 (UInt8.toNat_inj.1 (by have : (45 : UInt8).toNat = 45 := rfl; omega))
      obtain rfl : neg = false := by rw [HNG.out]; exact decide_eq_false (fun q => h45 q.2)
      have het : t = s := by rw [← Ht.out]; simp
      obtain rfl : m = n0 := by rw [← Hn0.out, ← Hm.out, het]
      rw [← het] at i0 f45 ⊢
      obtain ⟨y0, Hy0⟩ := nm (t.getD 0 0).toNat
      rw [Hy0.out] at i0 f45
      clear hz0 het
      clear h45 HNG Hneg
      go_enter Try.func65, Try.ntmps65
      go_upto_region 5 with fail
      go_cut [41] (fun s wx => s = .bool B ∧ wx = w)
      case first =>
        clear HMGE HR Ht
        by_cases q1 : m < 1
        · have g1 : decide ((m : Int) < 1) = true := decide_eq_true (by omega)
          obtain rfl : B = true := by rw [← HB.out]; exact decide_eq_true (.inl q1)
          clear HB
          go_wp2_with fail
          go_meet
          case rel => exact ⟨rfl, rfl⟩
        · have g1 : decide ((m : Int) < 1) = false := decide_eq_false (by omega)
          by_cases q2 : m > 19
          · have g2 : decide ((19 : Int) < (m : Int)) = true := decide_eq_true (by omega)
            obtain rfl : B = true := by rw [← HB.out]; exact decide_eq_true (.inr (.inl q2))
            clear HB
            go_wp2_with fail
            go_meet
            case rel => exact ⟨rfl, rfl⟩
          · have g2 : decide ((19 : Int) < (m : Int)) = false := decide_eq_false (by omega)
            have i3 := fun W => run_at_str hz (show 0 < m by omega) W
            rw [kx_kstr, show ((0 : Nat) : Int) = 0 from rfl] at i3
            have hh : (t.head? = some 48) ↔ (t.getD 0 0).toNat = 48 := by
              cases t with
              | nil => have := Hm.out; simp at this; omega
              | cons a r =>
                simp only [List.head?_cons, Option.some.injEq, List.getD_cons_zero]
                constructor
                · rintro rfl; rfl
                · intro e; exact UInt8.toNat_inj.1 e
            have HB2 : decide (m < 1 ∨ m > 19 ∨ ((t.getD 0 0).toNat = 48 ∧ (m > 1 ∨ false = true))) = B := by rw [← HB.out]; exact decide_eq_decide.2 (by rw [hh])
            have HB := Lib.hid HB2
            clear hh HB2
            rw [Hy0.out] at i3 HB
            obtain ⟨y, rfl⟩ : ∃ y, y = y0 := ⟨_, rfl⟩
            by_cases q3 : y = 48
            · have g3 : ((y : Int) == 48) = true := by rw [q3]; rfl
              by_cases q4 : m > 1
              · have g4 : decide ((1 : Int) < (m : Int)) = true := decide_eq_true (by omega)
                obtain rfl : B = true := by rw [← HB.out]; exact decide_eq_true (.inr (.inr ⟨q3, .inl q4⟩))
                clear HB q3
                go_wp2_with fail
                go_meet
                case rel => exact ⟨rfl, rfl⟩
              · have g4 : decide ((1 : Int) < (m : Int)) = false := decide_eq_false (by omega)
                obtain rfl : B = false := by
                  rw [← HB.out, Bool.eq_iff_iff, decide_eq_true_eq]
                  constructor
                  · rintro (h | h | ⟨_, h | h⟩)
                    · omega
                    · omega
                    · omega
                    · exact h
                  · intro h; exact .inr (.inr ⟨q3, .inr h⟩)
                clear HB q3
                go_wp2_with fail
                go_meet
                case rel => exact ⟨rfl, rfl⟩
            · have g3 : ((y : Int) == 48) = false := by simp; omega
              obtain rfl : B = false := by rw [← HB.out]; exact decide_eq_false (by omega)
              clear HB q3
              go_wp2_with fail
              go_meet
              case rel => exact ⟨rfl, rfl⟩
      case rest =>
        obtain ⟨rfl, hwc⟩ := hcut
        have hwc2 : w = wc := hwc.symm
        subst hwc2
        cases B with
        | true =>
          have HN : Hid (magF t false = none) := by show _ = _; rw [HMGE.out, if_pos rfl]
          clear HMGE HB
          go_wp2_with fail
          go_ret2
          exact ⟨by rw [← Hz1.out, ← Hz2.out, HR.out, HN.out]; rfl, rfl⟩
        | false =>
          have HMG : Hid (magF t false = if t.all isDg then if digF t 0 > limF false then none else some (sgnF false (digF t 0)) else none) := by show _ = _; rw [HMGE.out, if_neg (by decide)]
          have hm19 : m ≤ 19 := by
            have := HB.out
            rw [decide_eq_false_iff_not] at this
            omega
          clear HMGE HB
          go_wp2_with fail
          go_loopg [6, 7] m (fun g a b wr => ∃ k : Nat, Hid (g = m - k) ∧ k ≤ m ∧ b = .int .i64 k ∧ a = .int .u64 (digF (t.take k) 0) ∧ Hid ((t.take k).all isDg = true) ∧ wr = w)
          case atStart => exact ⟨0, rfl, by omega, rfl, rfl, rfl, rfl⟩
          case round =>
            obtain ⟨k, Hg, hk, rfl, rfl, HA, hw⟩ := hrel
            subst hw
            have hlt18 := dig_lt (t.take k).length (t.take k) rfl HA.out
            have hkl : (t.take k).length = k := by rw [List.length_take, Hm.out]; omega
            rw [hkl] at hlt18
            obtain ⟨n, Hdn⟩ := nm (digF (t.take k) 0)
            rw [Hdn.out] at hlt18 ⊢
            by_cases hlt : k < m
            · have ti : decide ((k : Int) < (m : Int)) = true := decide_eq_true (by omega)
              have hn18 : n < 1000000000000000000 := by
                have : (10 : Nat) ^ k ≤ 10 ^ 18 := Nat.pow_le_pow_right (by omega) (by omega)
                omega
              have hkt : k < t.length := by rw [Hm.out]; exact hlt
              have i1 := fun W => run_at_str hz hlt W
              rw [kx_kstr] at i1
              have HT := Lib.hid (take_dig hkt)
              obtain ⟨c, Hc⟩ := nm (t.getD k 0)
              rw [Hc.out] at i1 HT
              have HD : Hid (isDg c = decide (48 ≤ c.toNat ∧ c.toNat ≤ 57)) := rfl
              have HDG := Lib.hid (digF_snoc (t.take k) c)
              rw [← HT.out, Hdn.out] at HDG
              have HAL : Hid ((t.take (k + 1)).all isDg = isDg c) := by show _ = _; rw [HT.out, List.all_append, HA.out]; simp
              have HNO : Hid (isDg c = false → magF t false = none) := fun q => by
                rw [HMG.out]
                rw [if_neg]
                intro q2
                rw [List.all_eq_true] at q2
                have : c ∈ t := by rw [← Hc.out, getD_of hkt]; exact List.getElem_mem _
                rw [q2 c this] at q; cases q
              generalize c.toNat = y at i1 HD HDG
              obtain ⟨dg, Hdg⟩ := nm (isDg c)
              rw [Hdg.out] at HD HAL HNO
              clear hlt18 hkl HT HA
              by_cases hy1 : y < 48
              · have f1 : decide ((y : Int) < 48) = true := decide_eq_true (by omega)
                obtain rfl : dg = false := by rw [HD.out]; exact decide_eq_false (by omega)
                have HN := Lib.hid (HNO.out rfl)
                clear hy1 HD HDG HAL HNO
                go_wp2_with fail
                go_ret2
                exact ⟨by rw [← Hz1.out, ← Hz2.out, HR.out, HN.out]; rfl, rfl⟩
              · have f1 : decide ((y : Int) < 48) = false := decide_eq_false (by omega)
                by_cases hy2 : 57 < y
                · have f2 : decide ((57 : Int) < (y : Int)) = true := decide_eq_true (by omega)
                  obtain rfl : dg = false := by rw [HD.out]; exact decide_eq_false (by omega)
                  have HN := Lib.hid (HNO.out rfl)
                  clear hy1 hy2 HD HDG HAL HNO
                  go_wp2_with fail
                  go_ret2
                  exact ⟨by rw [← Hz1.out, ← Hz2.out, HR.out, HN.out]; rfl, rfl⟩
                · have f2 : decide ((57 : Int) < (y : Int)) = false := decide_eq_false (by omega)
                  obtain rfl : dg = true := by rw [HD.out]; exact decide_eq_true (by omega)
                  have w1 : IntKind.u64.wrap (10 * (n : Int)) = 10 * (n : Int) := by rw [IntKind.wrap_u64]; omega
                  have w2 : IntKind.u8.wrap ((y : Int) - 48) = (y : Int) - 48 := by rw [IntKind.wrap_u8]; omega
                  have w3 : IntKind.u64.wrap ((y : Int) - 48) = (y : Int) - 48 := by rw [IntKind.wrap_u64]; omega
                  have w4 : IntKind.u64.wrap (10 * (n : Int) + ((y : Int) - 48)) = 10 * (n : Int) + ((y : Int) - 48) := by rw [IntKind.wrap_u64]; omega
                  have hy3 : 48 ≤ y := by omega
                  clear HD HNO
                  go_wp2_with fail
                  go_roundg (m - (k + 1))
                  case measure => rw [Hg.out]; omega
                  case rel => exact ⟨k + 1, rfl, by omega, by go_num, by rw [HDG.out]; congr 1; omega, HAL.out, rfl⟩
            · have HKM : Hid (m = k) := by show _ = _; omega
              have hall : t.all isDg = true := by
                have := HA.out
                rwa [List.take_of_length_le (by rw [Hm.out, HKM.out]; exact Nat.le_refl _)] at this
              have HM : Hid (magF t false = if n > limF false then none else some (sgnF false n)) := by
                show _ = _
                rw [HMG.out, if_pos hall, ← Hdn.out, List.take_of_length_le (by rw [Hm.out, HKM.out]; exact Nat.le_refl _)]
              have ti : decide ((k : Int) < (m : Int)) = false := decide_eq_false (by omega)
              have hn19 : n < 10000000000000000000 := by
                have : (10 : Nat) ^ k ≤ 10 ^ 19 := Nat.pow_le_pow_right (by omega) (by omega)
                omega
              clear hall HMG HA hlt18 hkl
              by_cases hb : n > 9223372036854775807
              · have fb : decide ((9223372036854775807 : Int) < (n : Int)) = true := decide_eq_true (by omega)
                have HN : Hid (magF t false = none) := by show _ = _; rw [HM.out, if_pos (show n > limF false from hb)]
                clear HM
                go_wp2_with fail
                go_ret2
                exact ⟨by rw [← Hz1.out, ← Hz2.out, HR.out, HN.out]; rfl, rfl⟩
              · have fb : decide ((9223372036854775807 : Int) < (n : Int)) = false := decide_eq_false (by omega)
                have HN : Hid (magF t false = some (n : Int)) := by show _ = _; rw [HM.out, if_neg (show ¬ n > limF false from hb)]; rfl
                have w5 : wrap64 (n : Int) = (n : Int) := by rw [wrap64]; omega
                clear HM
                go_wp2_with fail
                go_ret2
                exact ⟨by rw [← Hz1.out, ← Hz2.out, HR.out, HN.out]; rfl, rfl⟩
        
  · have f0 : decide ((0 : Int) < (n0 : Int)) = false := decide_eq_false (by omega)
    obtain rfl : neg = false := by rw [HNG.out]; exact decide_eq_false (fun q => h0 q.1)
    have het : t = s := by rw [← Ht.out]; simp
    obtain rfl : m = n0 := by rw [← Hn0.out, ← Hm.out, het]
    rw [← het]
    clear hz0 het
    clear HNG Hneg
    go_enter Try.func65, Try.ntmps65
    go_upto_region 5 with fail
    go_cut [41] (fun s wx => s = .bool B ∧ wx = w)
    case first =>
      clear HMGE HR Ht
      by_cases q1 : m < 1
      · have g1 : decide ((m : Int) < 1) = true := decide_eq_true (by omega)
        obtain rfl : B = true := by rw [← HB.out]; exact decide_eq_true (.inl q1)
        clear HB
        go_wp2_with fail
        go_meet
        case rel => exact ⟨rfl, rfl⟩
      · have g1 : decide ((m : Int) < 1) = false := decide_eq_false (by omega)
        by_cases q2 : m > 19
        · have g2 : decide ((19 : Int) < (m : Int)) = true := decide_eq_true (by omega)
          obtain rfl : B = true := by rw [← HB.out]; exact decide_eq_true (.inr (.inl q2))
          clear HB
          go_wp2_with fail
          go_meet
          case rel => exact ⟨rfl, rfl⟩
        · have g2 : decide ((19 : Int) < (m : Int)) = false := decide_eq_false (by omega)
          have i3 := fun W => run_at_str hz (show 0 < m by omega) W
          rw [kx_kstr, show ((0 : Nat) : Int) = 0 from rfl] at i3
          have hh : (t.head? = some 48) ↔ (t.getD 0 0).toNat = 48 := by
            cases t with
            | nil => have := Hm.out; simp at this; omega
            | cons a r =>
              simp only [List.head?_cons, Option.some.injEq, List.getD_cons_zero]
              constructor
              · rintro rfl; rfl
              · intro e; exact UInt8.toNat_inj.1 e
          have HB2 : decide (m < 1 ∨ m > 19 ∨ ((t.getD 0 0).toNat = 48 ∧ (m > 1 ∨ false = true))) = B := by rw [← HB.out]; exact decide_eq_decide.2 (by rw [hh])
          have HB := Lib.hid HB2
          clear hh HB2
          generalize (t.getD 0 0).toNat = y at i3 HB
          by_cases q3 : y = 48
          · have g3 : ((y : Int) == 48) = true := by rw [q3]; rfl
            by_cases q4 : m > 1
            · have g4 : decide ((1 : Int) < (m : Int)) = true := decide_eq_true (by omega)
              obtain rfl : B = true := by rw [← HB.out]; exact decide_eq_true (.inr (.inr ⟨q3, .inl q4⟩))
              clear HB q3
              go_wp2_with fail
              go_meet
              case rel => exact ⟨rfl, rfl⟩
            · have g4 : decide ((1 : Int) < (m : Int)) = false := decide_eq_false (by omega)
              obtain rfl : B = false := by
                rw [← HB.out, Bool.eq_iff_iff, decide_eq_true_eq]
                constructor
                · rintro (h | h | ⟨_, h | h⟩)
                  · omega
                  · omega
                  · omega
                  · exact h
                · intro h; exact .inr (.inr ⟨q3, .inr h⟩)
              clear HB q3
              go_wp2_with fail
              go_meet
              case rel => exact ⟨rfl, rfl⟩
          · have g3 : ((y : Int) == 48) = false := by simp; omega
            obtain rfl : B = false := by rw [← HB.out]; exact decide_eq_false (by omega)
            clear HB q3
            go_wp2_with fail
            go_meet
            case rel => exact ⟨rfl, rfl⟩
    case rest =>
      obtain ⟨rfl, hwc⟩ := hcut
      have hwc2 : w = wc := hwc.symm
      subst hwc2
      cases B with
      | true =>
        have HN : Hid (magF t false = none) := by show _ = _; rw [HMGE.out, if_pos rfl]
        clear HMGE HB
        go_wp2_with fail
        go_ret2
        exact ⟨by rw [← Hz1.out, ← Hz2.out, HR.out, HN.out]; rfl, rfl⟩
      | false =>
        have HMG : Hid (magF t false = if t.all isDg then if digF t 0 > limF false then none else some (sgnF false (digF t 0)) else none) := by show _ = _; rw [HMGE.out, if_neg (by decide)]
        have hm19 : m ≤ 19 := by
          have := HB.out
          rw [decide_eq_false_iff_not] at this
          omega
        clear HMGE HB
        go_wp2_with fail
        go_loopg [6, 7] m (fun g a b wr => ∃ k : Nat, Hid (g = m - k) ∧ k ≤ m ∧ b = .int .i64 k ∧ a = .int .u64 (digF (t.take k) 0) ∧ Hid ((t.take k).all isDg = true) ∧ wr = w)
        case atStart => exact ⟨0, rfl, by omega, rfl, rfl, rfl, rfl⟩
        case round =>
          obtain ⟨k, Hg, hk, rfl, rfl, HA, hw⟩ := hrel
          subst hw
          have hlt18 := dig_lt (t.take k).length (t.take k) rfl HA.out
          have hkl : (t.take k).length = k := by rw [List.length_take, Hm.out]; omega
          rw [hkl] at hlt18
          obtain ⟨n, Hdn⟩ := nm (digF (t.take k) 0)
          rw [Hdn.out] at hlt18 ⊢
          by_cases hlt : k < m
          · have ti : decide ((k : Int) < (m : Int)) = true := decide_eq_true (by omega)
            have hn18 : n < 1000000000000000000 := by
              have : (10 : Nat) ^ k ≤ 10 ^ 18 := Nat.pow_le_pow_right (by omega) (by omega)
              omega
            have hkt : k < t.length := by rw [Hm.out]; exact hlt
            have i1 := fun W => run_at_str hz hlt W
            rw [kx_kstr] at i1
            have HT := Lib.hid (take_dig hkt)
            obtain ⟨c, Hc⟩ := nm (t.getD k 0)
            rw [Hc.out] at i1 HT
            have HD : Hid (isDg c = decide (48 ≤ c.toNat ∧ c.toNat ≤ 57)) := rfl
            have HDG := Lib.hid (digF_snoc (t.take k) c)
            rw [← HT.out, Hdn.out] at HDG
            have HAL : Hid ((t.take (k + 1)).all isDg = isDg c) := by show _ = _; rw [HT.out, List.all_append, HA.out]; simp
            have HNO : Hid (isDg c = false → magF t false = none) := fun q => by
              rw [HMG.out]
              rw [if_neg]
              intro q2
              rw [List.all_eq_true] at q2
              have : c ∈ t := by rw [← Hc.out, getD_of hkt]; exact List.getElem_mem _
              rw [q2 c this] at q; cases q
            generalize c.toNat = y at i1 HD HDG
            obtain ⟨dg, Hdg⟩ := nm (isDg c)
            rw [Hdg.out] at HD HAL HNO
            clear hlt18 hkl HT HA
            by_cases hy1 : y < 48
            · have f1 : decide ((y : Int) < 48) = true := decide_eq_true (by omega)
              obtain rfl : dg = false := by rw [HD.out]; exact decide_eq_false (by omega)
              have HN := Lib.hid (HNO.out rfl)
              clear hy1 HD HDG HAL HNO
              go_wp2_with fail
              go_ret2
              exact ⟨by rw [← Hz1.out, ← Hz2.out, HR.out, HN.out]; rfl, rfl⟩
            · have f1 : decide ((y : Int) < 48) = false := decide_eq_false (by omega)
              by_cases hy2 : 57 < y
              · have f2 : decide ((57 : Int) < (y : Int)) = true := decide_eq_true (by omega)
                obtain rfl : dg = false := by rw [HD.out]; exact decide_eq_false (by omega)
                have HN := Lib.hid (HNO.out rfl)
                clear hy1 hy2 HD HDG HAL HNO
                go_wp2_with fail
                go_ret2
                exact ⟨by rw [← Hz1.out, ← Hz2.out, HR.out, HN.out]; rfl, rfl⟩
              · have f2 : decide ((57 : Int) < (y : Int)) = false := decide_eq_false (by omega)
                obtain rfl : dg = true := by rw [HD.out]; exact decide_eq_true (by omega)
                have w1 : IntKind.u64.wrap (10 * (n : Int)) = 10 * (n : Int) := by rw [IntKind.wrap_u64]; omega
                have w2 : IntKind.u8.wrap ((y : Int) - 48) = (y : Int) - 48 := by rw [IntKind.wrap_u8]; omega
                have w3 : IntKind.u64.wrap ((y : Int) - 48) = (y : Int) - 48 := by rw [IntKind.wrap_u64]; omega
                have w4 : IntKind.u64.wrap (10 * (n : Int) + ((y : Int) - 48)) = 10 * (n : Int) + ((y : Int) - 48) := by rw [IntKind.wrap_u64]; omega
                have hy3 : 48 ≤ y := by omega
                clear HD HNO
                go_wp2_with fail
                go_roundg (m - (k + 1))
                case measure => rw [Hg.out]; omega
                case rel => exact ⟨k + 1, rfl, by omega, by go_num, by rw [HDG.out]; congr 1; omega, HAL.out, rfl⟩
          · have HKM : Hid (m = k) := by show _ = _; omega
            have hall : t.all isDg = true := by
              have := HA.out
              rwa [List.take_of_length_le (by rw [Hm.out, HKM.out]; exact Nat.le_refl _)] at this
            have HM : Hid (magF t false = if n > limF false then none else some (sgnF false n)) := by
              show _ = _
              rw [HMG.out, if_pos hall, ← Hdn.out, List.take_of_length_le (by rw [Hm.out, HKM.out]; exact Nat.le_refl _)]
            have ti : decide ((k : Int) < (m : Int)) = false := decide_eq_false (by omega)
            have hn19 : n < 10000000000000000000 := by
              have : (10 : Nat) ^ k ≤ 10 ^ 19 := Nat.pow_le_pow_right (by omega) (by omega)
              omega
            clear hall HMG HA hlt18 hkl
            by_cases hb : n > 9223372036854775807
            · have fb : decide ((9223372036854775807 : Int) < (n : Int)) = true := decide_eq_true (by omega)
              have HN : Hid (magF t false = none) := by show _ = _; rw [HM.out, if_pos (show n > limF false from hb)]
              clear HM
              go_wp2_with fail
              go_ret2
              exact ⟨by rw [← Hz1.out, ← Hz2.out, HR.out, HN.out]; rfl, rfl⟩
            · have fb : decide ((9223372036854775807 : Int) < (n : Int)) = false := decide_eq_false (by omega)
              have HN : Hid (magF t false = some (n : Int)) := by show _ = _; rw [HM.out, if_neg (show ¬ n > limF false from hb)]; rfl
              have w5 : wrap64 (n : Int) = (n : Int) := by rw [wrap64]; omega
              clear HM
              go_wp2_with fail
              go_ret2
              exact ⟨by rw [← Hz1.out, ← Hz2.out, HR.out, HN.out]; rfl, rfl⟩
        
end Go.Proofs.Ytblkgjdhaibhgaa
