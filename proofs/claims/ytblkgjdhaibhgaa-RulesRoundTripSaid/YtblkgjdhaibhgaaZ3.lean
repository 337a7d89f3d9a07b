/-
  Lemmas and walks that the claim rests on, part 3 (packed by a program).
-/
import Derived.Test.YtblkgjdhaibhgaaZ2
import Derived.Test.YtblkgjdhaibhgaaZ1
namespace Go.Proofs.Ytblkgjdhaibhgaa
open Go.RowKit
theorem rIsLower_c (c : UInt8) (w : World) : Calls Try.prog 81 #[.int .u8 c.toNat] w fun e w' => e = .returned (.bool (isLw c)) ∧ w' = w := by
 have HR : Hid (isLw c = decide (97 ≤ c.toNat ∧ c.toNat ≤ 122)) := rfl
 obtain ⟨R, HRR⟩ := nm (isLw c)
 rw [HRR.out] at HR ⊢
 obtain ⟨x, Hx⟩ := nm c.toNat
 rw [Hx.out] at HR ⊢
 by_cases h1 : 97 ≤ x
 ·
  have f1 : decide ((97 : Int) ≤ (x : Int)) = true := decide_eq_true (by omega)
  obtain ⟨b, f2⟩ : ∃ b, decide ((x : Int) ≤ 122) = b := ⟨_, rfl⟩
  obtain rfl : R = b := by
   rw [HR.out, ← f2, Bool.eq_iff_iff, decide_eq_true_eq, decide_eq_true_eq]; omega
  go_enter Try.func81, Try.ntmps81
  go_wp2_with fail
  go_ret
  exact ⟨rfl, rfl⟩
 ·
  have f1 : decide ((97 : Int) ≤ (x : Int)) = false := decide_eq_false (by omega)
  obtain rfl : R = false := by rw [HR.out]; exact decide_eq_false (by omega)
  go_enter Try.func81, Try.ntmps81
  go_wp2_with fail
  go_ret
  exact ⟨rfl, rfl⟩
theorem findB_step {l : Bs} {k : Nat} (h : k < l.length) (c : UInt8) (i : Nat) : findB (l.drop k) c i = if l.getD k 0 = c then some i else findB (l.drop (k + 1)) c (i + 1) := by rw [drop_cons h]; rfl
theorem u8s_len (l : Bs) : (u8s l).length = l.length := by simp [u8s]
theorem u8s_get (l : Bs) {k : Nat} (h : k < l.length) : (u8s l)[k]'(by rw [u8s_len]; exact h) = .int .u8 ((l.getD k 0).toNat : Int) := by simp [u8s, List.getD, h]
set_option maxRecDepth 100000 in
set_option maxHeartbeats 4000000 in
theorem rLookup_c (w : World) (p o : Nat) (T : TypeId) (cs : Array Value) (VA : Option Addr) (vc : Nat) (vs : Bs) (hb : Blk w p T cs) (hcs : cs[o]? = some (.slice VA vs.length vc)) (hv : Own w 5 1 VA vs.length vc (u8s vs)) (hp : ¬ At VA p) (c : UInt8) (left : Bool) (hn : vs.length ≤ 100000) :
  Calls Try.prog 82 #[.pointer (some ⟨p, o, none⟩), .int .u8 c.toNat, .bool left] w fun e w' => e = .returned (.int .i64 (lookF vs c left).1) ∧ ∃ (VA' : Option Addr) (vc' : Nat), Blk w' p T (cs.setIfInBounds o (.slice VA' (lookF vs c left).2.length vc')) ∧ Own w' 5 1 VA' (lookF vs c left).2.length vc' (u8s (lookF vs c left).2) ∧ (∀ k, At VA' k → At VA k ∨ w.heap.size ≤ k) ∧ Upd (fun k => k = p ∨ At VA k) w w' := by
 have c0 := hb.cell o
 rw [hcs] at c0
 have hf := hb.frozen o
 have hL : Hid (lookF vs c left = match findB vs c 0 with | some i => (i + 1, vs) | none => if left then (vs.length + 1, vs ++ [c]) else (0, vs)) := rfl
 have hsame : cs.setIfInBounds o (.slice VA vs.length vc) = cs := by
  apply Array.ext
  ·
   simp
  ·
   intro i h1 h2
   rw [Array.getElem_setIfInBounds]
   ·
    split
    ·
     rename_i e
     subst e
     rw [Array.getElem?_eq_getElem h2] at hcs
     exact (Option.some.inj hcs).symm
    ·
     rfl
 obtain ⟨n, Hn⟩ := nm vs.length
 rw [Hn.out] at c0 hn hsame
 have hv2 : Own w 5 1 VA n vc (u8s vs) := by rw [← Hn.out]; exact hv
 have HS := Lib.hid hsame
 have HCS := Lib.hid hcs
 clear hsame hcs hv
 go_enter Try.func82, Try.ntmps82
 go_wp2_with fail
 go_loopg [13] n (fun g s wr => ∃ k : Nat, Hid (g = n - k) ∧ k ≤ n ∧ s = .int .i64 k ∧ Hid (findB vs c 0 = findB (vs.drop k) c k) ∧ wr = w)
 case atStart => exact ⟨0, rfl, by omega, rfl, by show _ = _; rw [List.drop_zero], rfl⟩
 case round =>
  obtain ⟨k, Hg, hk, rfl, HK, hw⟩ := hrel
  subst hw
  by_cases hlt : k < n
  ·
   have ti : decide ((k : Int) < (n : Int)) = true := decide_eq_true (by omega)
   have hkl : k < vs.length := by rw [Hn.out]; exact hlt
   obtain ⟨g, rfl⟩ := hv2.some_ (by omega)
   have hc := hv2.cell_ (i := k) (by rw [u8s_len]; exact hkl)
   rw [u8s_get vs hkl] at hc
   have HF := Lib.hid (findB_step hkl c k)
   obtain ⟨y, Hy⟩ := nm (vs.getD k 0)
   rw [Hy.out] at hc HF
   by_cases hyc : y = c
   ·
    have fy : (((y.toNat : Nat) : Int) == ((c.toNat : Nat) : Int)) = true := by rw [hyc]; simp
    have HR : Hid (lookF vs c left = (k + 1, vs)) := by show _ = _; rw [hL.out, HK.out, HF.out, if_pos hyc]
    clear hyc HF HK hL
    go_wp2_with fail
    go_ret
    refine ⟨by rw [HR.out]; rfl, some ⟨g, 0, none⟩, vc, ?_, ?_, fun _ h => .inl h, Upd.refl⟩
    ·
     rw [HR.out, Hn.out, HS.out]; exact hb
    ·
     rw [HR.out, Hn.out]; exact hv2
   ·
    have fy : (((y.toNat : Nat) : Int) == ((c.toNat : Nat) : Int)) = false := by
     simp only [beq_eq_false_iff_ne, ne_eq]
     intro q
     exact hyc (UInt8.toNat_inj.1 (by omega))
    have HK2 : Hid (findB vs c 0 = findB (vs.drop (k + 1)) c (k + 1)) := by show _ = _; rw [HK.out, HF.out, if_neg hyc]
    clear hyc HF HK
    go_wp2_with fail
    go_roundg (n - (k + 1))
    case measure => rw [Hg.out]; omega
    case rel => exact ⟨k + 1, rfl, by omega, by go_num, HK2, rfl⟩
  ·
   obtain rfl : n = k := by omega
   have hnone : findB vs c 0 = none := by rw [HK.out, List.drop_of_length_le (by rw [Hn.out]; exact Nat.le_refl _)]; rfl
   have HN : Hid (lookF vs c left = if left then (n + 1, vs ++ [c]) else (0, vs)) := by show _ = _; rw [hL.out, hnone, Hn.out]
   clear hnone HK hL
   cases left with
   | false =>
    go_wp2_with fail
    go_ret
    refine ⟨by rw [HN.out]; rfl, VA, vc, ?_, ?_, fun _ h => .inl h, Upd.refl⟩
    ·
     rw [HN.out]; show Blk _ _ _ (cs.setIfInBounds o (.slice VA vs.length vc)); rw [Hn.out, HS.out]; exact hb
    ·
     rw [HN.out]; show Own _ _ _ _ vs.length _ _; rw [Hn.out]; exact hv2
   | true =>
    have ho : o < cs.size := by
     rcases Nat.lt_or_ge o cs.size with q | q
     ·
      exact q
     ·
      have := HCS.out
      rw [Array.getElem?_eq_none q] at this; cases this
    have HO := Lib.hid ho
    have hbu := hb
    have hcs2 := HCS.out
    rw [Hn.out] at hcs2
    have HCS2 := Lib.hid hcs2
    clear ho HCS HS Hg hcs2
    go_wp2_with (at_builtin; refine wpList_app rfl rfl T_u8s rfl (hv2.alloc _) rfl (Sl.new _ _ _) rfl (by simp [Value.oneCell']) (by simp only [maxLen]; omega) (by omega) ?_; intro A8 c8 w8 ho8 hu8 hat8; have b8 := (hbu.alloc _).upd hu8 hp; have d8 := b8.cell o; rw [HCS2.out] at d8; have f8 := b8.frozen o; have b9 := b8.set_ o (.slice A8 (n + 1) c8); have d9 := b9.cell o; rw [Array.getElem?_setIfInBounds_self_of_lt HO.out] at d9)
    go_ret
    refine ⟨?_, A8, c8, ?_, ?_, fun k h => ?_, ?_⟩
    ·
     rw [HN.out]; rfl
    ·
     rw [HN.out]
     show Blk _ _ _ (cs.setIfInBounds o (.slice A8 (vs ++ [c]).length c8))
     rw [List.length_append, Hn.out]; exact b9
    ·
     rw [HN.out]
     show Own _ _ _ _ (vs ++ [c]).length _ (u8s (vs ++ [c]))
     rw [List.length_append, Hn.out]
     have e : u8s (vs ++ [c]) = u8s vs ++ [.int .u8 (c.toNat : Int)] := by simp [u8s]
     rw [e]
     refine Own.upd ho8 (updCell _ _ _ _) (fun k hk e => ?_)
     subst e
     rcases hat8 k hk with q | q
     ·
      exact hp q
     ·
      have := hbu.lt; rw [q] at this; simp at this; omega
    ·
     rcases hat8 k h with q | q
     ·
      exact .inl q
     ·
      right; rw [q]; simp
    ·
     exact ((Upd.refl.alloc _).trans hu8 (fun _ _ h => .inr h)).trans (updCell _ _ _ _) (fun _ _ h => .inl h)
end Go.Proofs.Ytblkgjdhaibhgaa
namespace Go.Proofs.Ytblkgjdhaibhgaa
open Go.RowKit
theorem run_from_str {s : Bs} {n i : Nat} (h : s.length = n) (hi : i ≤ n) (w : World) : (Instr.slice 9 (.string (kstr s)) (some (.int .i64 (i : Int))) none none).run Try.prog w = .ok (.string (kstr (s.drop i))) w := by
 have hz : (kstr s).size = n := by rw [kstr_size, h]
 have := run_slice_string_l (P := Try.prog) w 9 (kstr s) Try.underlying9 .i64 (i : Int) (by omega) (by omega)
 rw [this, kstr_extract, kx_kstr, Int.toNat_natCast, List.take_of_length_le (by rw [List.length_drop]; omega)]
theorem run_to_str {s : Bs} {n i : Nat} (h : s.length = n) (hi : i ≤ n) (w : World) : (Instr.slice 9 (.string (kstr s)) none (some (.int .i64 (i : Int))) none).run Try.prog w = .ok (.string (kstr (s.take i))) w := by
 have hz : (kstr s).size = n := by rw [kstr_size, h]
 have := run_slice_string_h (P := Try.prog) w 9 (kstr s) Try.underlying9 .i64 (i : Int) (by omega) (by omega)
 rw [this, kstr_extract, kx_kstr]
 simp
theorem digF_snoc (l : Bs) (c : UInt8) : digF (l ++ [c]) 0 = 10 * digF l 0 + (c.toNat - 48) := by simp [digF]
theorem dig_lt : ∀ (k : Nat) (l : Bs), l.length = k → l.all isDg = true → digF l 0 < 10 ^ k
 | 0, l, h, _ => by
  have : l = [] := List.eq_nil_of_length_eq_zero h
  subst this; simp [digF]
 | k + 1, l, h, ha => by
  have hne : l ≠ [] := by intro e; subst e; simp at h
  obtain ⟨l0, c, rfl⟩ : ∃ l0 c, l = l0 ++ [c] := ⟨l.dropLast, l.getLast hne, (List.dropLast_concat_getLast hne).symm⟩
  rw [List.all_append, Bool.and_eq_true] at ha
  have := dig_lt k l0 (by simpa using h) ha.1
  have h2 : isDg c = true := by simpa using ha.2
  unfold isDg at h2
  rw [decide_eq_true_eq] at h2
  rw [digF_snoc, Nat.pow_succ]
  omega
def limF (neg : Bool) : Nat := bif neg then 9223372036854775808 else 9223372036854775807
def sgnF (neg : Bool) (n : Nat) : Int := bif neg then -(n : Int) else n
def magF (t : Bs) (neg : Bool) : Option Int :=
 if t.length < 1 ∨ t.length > 19 ∨ (t.head? = some 48 ∧ (t.length > 1 ∨ neg = true)) then none
 else if t.all isDg then
  if digF t 0 > limF neg then none else some (sgnF neg (digF t 0))
 else none
theorem decF_eq (s : Bs) : decF s = magF (if decide (s.head? = some 45) then s.tail else s) (decide (s.head? = some 45)) := by
 unfold decF magF limF sgnF
 cases decide (s.head? = some 45) <;> rfl
theorem take_dig {t : Bs} {k : Nat} (h : k < t.length) : t.take (k + 1) = t.take k ++ [t.getD k 0] := by rw [take_snoc_ h, getD_of h]
set_option maxRecDepth 100000 in
set_option maxHeartbeats 4000000 in
theorem wParse_c (s : Bs) (w : World) (hs : s.length ≤ 1000000) :
  Calls Try.prog 65 #[.string (kstr s)] w fun e w' => e = .returned (.tuple #[.int .i64 ((decF s).getD 0), .bool (decF s).isSome]) ∧ w' = w := by
 rw [decF_eq]
 have hz0 : (kstr s).size = s.length := kstr_size s
 obtain ⟨n0, Hn0⟩ := nm s.length
 rw [Hn0.out] at hz0 hs
 have HNG : Hid (decide (s.head? = some 45) = decide (0 < n0 ∧ s.getD 0 0 = 45)) := by
  show _ = _
  rw [← Hn0.out]
  cases s with
  | nil => rfl
  | cons a r => simp
 obtain ⟨neg, Hneg⟩ := nm (decide (s.head? = some 45))
 rw [Hneg.out] at HNG
 rw [Hneg.out]
 obtain ⟨t, Ht⟩ := nm (if neg then s.tail else s)
 rw [Ht.out]
 obtain ⟨r, HR⟩ := nm (magF t neg)
 have HR1 : Hid (r = magF t neg) := HR.out.symm
 have HR := HR1
 obtain ⟨m, Hm⟩ := nm t.length
 have hz : (kstr t).size = m := by rw [kstr_size, Hm.out]
 obtain ⟨B, HB⟩ := nm (decide (m < 1 ∨ m > 19 ∨ (t.head? = some 48 ∧ (m > 1 ∨ neg = true))))
 have HMGE : Hid (magF t neg = if B = true then none else if t.all isDg then if digF t 0 > limF neg then none else some (sgnF neg (digF t 0)) else none) := by
  show _ = _
  unfold magF
  rw [← HB.out, Hm.out]
  simp only [decide_eq_true_eq]
 have hm1 : m ≤ 1000000 := by
  have := Hn0.out
  rw [← Hm.out, ← Ht.out]
  split
  ·
   rw [List.length_tail]; omega
  ·
   omega
 obtain ⟨z1, Hz1⟩ := nm (r.getD 0)
 obtain ⟨z2, Hz2⟩ := nm r.isSome
 rw [← HR.out, Hz1.out, Hz2.out]
 by_cases h0 : 0 < n0
 ·
  have f0 : decide ((0 : Int) < (n0 : Int)) = true := decide_eq_true (by omega)
  have i0 := fun W => run_at_str hz0 h0 W
  rw [kx_kstr, show ((0 : Nat) : Int) = 0 from rfl] at i0
  by_cases h45 : s.getD 0 0 = 45
  ·
   rw [h45, show ((45 : UInt8).toNat : Int) = 45 from rfl] at i0
   obtain rfl : neg = true := by rw [HNG.out]; exact decide_eq_true ⟨h0, h45⟩
   have hsl := fun W => run_from_str Hn0.out (show 1 ≤ n0 by omega) W
   have het : s.drop 1 = t := by rw [← Ht.out]; simp
   rw [het, show ((1 : Nat) : Int) = 1 from rfl] at hsl
   clear h45 HNG het Hneg
   go_enter Try.func65, Try.ntmps65
   go_upto_region 5 with fail
   go_cut [41] (fun s wx => s = .bool B ∧ wx = w)
   case first =>
    clear HMGE HR Ht
    by_cases q1 : m < 1
    ·
     have g1 : decide ((m : Int) < 1) = true := decide_eq_true (by omega)
     obtain rfl : B = true := by rw [← HB.out]; exact decide_eq_true (.inl q1)
     clear HB
     go_wp2_with fail
     go_meet
     case rel => exact ⟨rfl, rfl⟩
    ·
     have g1 : decide ((m : Int) < 1) = false := decide_eq_false (by omega)
     by_cases q2 : m > 19
     ·
      have g2 : decide ((19 : Int) < (m : Int)) = true := decide_eq_true (by omega)
      obtain rfl : B = true := by rw [← HB.out]; exact decide_eq_true (.inr (.inl q2))
      clear HB
      go_wp2_with fail
      go_meet
      case rel => exact ⟨rfl, rfl⟩
     ·
      have g2 : decide ((19 : Int) < (m : Int)) = false := decide_eq_false (by omega)
      have i3 := fun W => run_at_str hz (show 0 < m by omega) W
      rw [kx_kstr, show ((0 : Nat) : Int) = 0 from rfl] at i3
      have hh : (t.head? = some 48) ↔ (t.getD 0 0).toNat = 48 := by
       cases t with
       | nil => have := Hm.out; simp at this; omega
       | cons a r =>
        simp only [List.head?_cons, Option.some.injEq, List.getD_cons_zero]
        constructor
        ·
         rintro rfl; rfl
        ·
         intro e; exact UInt8.toNat_inj.1 e
      have HB2 : decide (m < 1 ∨ m > 19 ∨ ((t.getD 0 0).toNat = 48 ∧ (m > 1 ∨ true = true))) = B := by rw [← HB.out]; exact decide_eq_decide.2 (by rw [hh])
      have HB := Lib.hid HB2
      clear hh HB2
      generalize (t.getD 0 0).toNat = y at i3 HB
      by_cases q3 : y = 48
      ·
       have g3 : ((y : Int) == 48) = true := by rw [q3]; rfl
       by_cases q4 : m > 1
       ·
        have g4 : decide ((1 : Int) < (m : Int)) = true := decide_eq_true (by omega)
        obtain rfl : B = true := by rw [← HB.out]; exact decide_eq_true (.inr (.inr ⟨q3, .inl q4⟩))
        clear HB q3
        go_wp2_with fail
        go_meet
        case rel => exact ⟨rfl, rfl⟩
       ·
        have g4 : decide ((1 : Int) < (m : Int)) = false := decide_eq_false (by omega)
        obtain rfl : B = true := by
         rw [← HB.out, Bool.eq_iff_iff, decide_eq_true_eq]
         constructor
         ·
          rintro (h | h | ⟨_, h | h⟩)
          ·
           omega
          ·
           omega
          ·
           omega
          ·
           exact h
         ·
          intro h; exact .inr (.inr ⟨q3, .inr h⟩)
        clear HB q3
        go_wp2_with fail
        go_meet
        case rel => exact ⟨rfl, rfl⟩
      ·
       have g3 : ((y : Int) == 48) = false := by simp; omega
       obtain rfl : B = false := by rw [← HB.out]; exact decide_eq_false (by omega)
       clear HB q3
       go_wp2_with fail
       go_meet
       case rel => exact ⟨rfl, rfl⟩
   case rest =>
    obtain ⟨rfl, hwc⟩ := hcut
    have hwc2 : w = wc := hwc.symm
    subst hwc2
    cases B with
    | true =>
     have HN : Hid (magF t true = none) := by show _ = _; rw [HMGE.out, if_pos rfl]
     clear HMGE HB
     go_wp2_with fail
     go_ret2
     exact ⟨by rw [← Hz1.out, ← Hz2.out, HR.out, HN.out]; rfl, rfl⟩
    | false =>
     have HMG : Hid (magF t true = if t.all isDg then if digF t 0 > limF true then none else some (sgnF true (digF t 0)) else none) := by show _ = _; rw [HMGE.out, if_neg (by decide)]
     have hm19 : m ≤ 19 := by
      have := HB.out
      rw [decide_eq_false_iff_not] at this
      omega
     clear HMGE HB
     go_wp2_with fail
     go_loopg [6, 7] m (fun g a b wr => ∃ k : Nat, Hid (g = m - k) ∧ k ≤ m ∧ b = .int .i64 k ∧ a = .int .u64 (digF (t.take k) 0) ∧ Hid ((t.take k).all isDg = true) ∧ wr = w)
     case atStart => exact ⟨0, rfl, by omega, rfl, rfl, rfl, rfl⟩
     case round =>
      obtain ⟨k, Hg, hk, rfl, rfl, HA, hw⟩ := hrel
      subst hw
      have hlt18 := dig_lt (t.take k).length (t.take k) rfl HA.out
      have hkl : (t.take k).length = k := by rw [List.length_take, Hm.out]; omega
      rw [hkl] at hlt18
      obtain ⟨n, Hdn⟩ := nm (digF (t.take k) 0)
      rw [Hdn.out] at hlt18 ⊢
      by_cases hlt : k < m
      ·
       have ti : decide ((k : Int) < (m : Int)) = true := decide_eq_true (by omega)
       have hn18 : n < 1000000000000000000 := by
        have : (10 : Nat) ^ k ≤ 10 ^ 18 := Nat.pow_le_pow_right (by omega) (by omega)
        omega
       have hkt : k < t.length := by rw [Hm.out]; exact hlt
       have i1 := fun W => run_at_str hz hlt W
       rw [kx_kstr] at i1
       have HT := Lib.hid (take_dig hkt)
       obtain ⟨c, Hc⟩ := nm (t.getD k 0)
       rw [Hc.out] at i1 HT
       have HD : Hid (isDg c = decide (48 ≤ c.toNat ∧ c.toNat ≤ 57)) := rfl
       have HDG := Lib.hid (digF_snoc (t.take k) c)
       rw [← HT.out, Hdn.out] at HDG
       have HAL : Hid ((t.take (k + 1)).all isDg = isDg c) := by show _ = _; rw [HT.out, List.all_append, HA.out]; simp
       have HNO : Hid (isDg c = false → magF t true = none) := fun q => by
        rw [HMG.out]
        rw [if_neg]
        intro q2
        rw [List.all_eq_true] at q2
        have : c ∈ t := by rw [← Hc.out, getD_of hkt]; exact List.getElem_mem _
        rw [q2 c this] at q; cases q
       generalize c.toNat = y at i1 HD HDG
       obtain ⟨dg, Hdg⟩ := nm (isDg c)
       rw [Hdg.out] at HD HAL HNO
       clear hlt18 hkl HT HA
       by_cases hy1 : y < 48
       ·
        have f1 : decide ((y : Int) < 48) = true := decide_eq_true (by omega)
        obtain rfl : dg = false := by rw [HD.out]; exact decide_eq_false (by omega)
        have HN := Lib.hid (HNO.out rfl)
        clear hy1 HD HDG HAL HNO
        go_wp2_with fail
        go_ret2
        exact ⟨by rw [← Hz1.out, ← Hz2.out, HR.out, HN.out]; rfl, rfl⟩
       ·
        have f1 : decide ((y : Int) < 48) = false := decide_eq_false (by omega)
        by_cases hy2 : 57 < y
        ·
         have f2 : decide ((57 : Int) < (y : Int)) = true := decide_eq_true (by omega)
         obtain rfl : dg = false := by rw [HD.out]; exact decide_eq_false (by omega)
         have HN := Lib.hid (HNO.out rfl)
         clear hy1 hy2 HD HDG HAL HNO
         go_wp2_with fail
         go_ret2
         exact ⟨by rw [← Hz1.out, ← Hz2.out, HR.out, HN.out]; rfl, rfl⟩
        ·
         have f2 : decide ((57 : Int) < (y : Int)) = false := decide_eq_false (by omega)
         obtain rfl : dg = true := by rw [HD.out]; exact decide_eq_true (by omega)
         have w1 : IntKind.u64.wrap (10 * (n : Int)) = 10 * (n : Int) := by rw [IntKind.wrap_u64]; omega
         have w2 : IntKind.u8.wrap ((y : Int) - 48) = (y : Int) - 48 := by rw [IntKind.wrap_u8]; omega
         have w3 : IntKind.u64.wrap ((y : Int) - 48) = (y : Int) - 48 := by rw [IntKind.wrap_u64]; omega
         have w4 : IntKind.u64.wrap (10 * (n : Int) + ((y : Int) - 48)) = 10 * (n : Int) + ((y : Int) - 48) := by rw [IntKind.wrap_u64]; omega
         have hy3 : 48 ≤ y := by omega
         clear HD HNO
         go_wp2_with fail
         go_roundg (m - (k + 1))
         case measure => rw [Hg.out]; omega
         case rel => exact ⟨k + 1, rfl, by omega, by go_num, by rw [HDG.out]; congr 1; omega, HAL.out, rfl⟩
      ·
       have HKM : Hid (m = k) := by show _ = _; omega
       have hall : t.all isDg = true := by
        have := HA.out
        rwa [List.take_of_length_le (by rw [Hm.out, HKM.out]; exact Nat.le_refl _)] at this
       have HM : Hid (magF t true = if n > limF true then none else some (sgnF true n)) := by
        show _ = _
        rw [HMG.out, if_pos hall, ← Hdn.out, List.take_of_length_le (by rw [Hm.out, HKM.out]; exact Nat.le_refl _)]
       have ti : decide ((k : Int) < (m : Int)) = false := decide_eq_false (by omega)
       have hn19 : n < 10000000000000000000 := by
        have : (10 : Nat) ^ k ≤ 10 ^ 19 := Nat.pow_le_pow_right (by omega) (by omega)
        omega
       clear hall HMG HA hlt18 hkl
       by_cases hb : n > 9223372036854775808
       ·
        have fb : decide ((9223372036854775808 : Int) < (n : Int)) = true := decide_eq_true (by omega)
        have HN : Hid (magF t true = none) := by show _ = _; rw [HM.out, if_pos (show n > limF true from hb)]
        clear HM
        go_wp2_with fail
        go_ret2
        exact ⟨by rw [← Hz1.out, ← Hz2.out, HR.out, HN.out]; rfl, rfl⟩
       ·
        have fb : decide ((9223372036854775808 : Int) < (n : Int)) = false := decide_eq_false (by omega)
        have HN : Hid (magF t true = some (-(n : Int))) := by show _ = _; rw [HM.out, if_neg (show ¬ n > limF true from hb)]; rfl
        have w5 : wrap64 (IntKind.u64.wrap (-(n : Int))) = -(n : Int) := by rw [wrap64, IntKind.wrap_u64]; omega
        clear HM
        go_wp2_with fail
        go_ret2
        exact ⟨by rw [← Hz1.out, ← Hz2.out, HR.out, HN.out]; show Ending.returned (.tuple #[.int .i64 (wrap64 (IntKind.u64.wrap (-(n : Int)))), .bool true]) = _; rw [w5]; rfl, rfl⟩
  ·
   have f45 : (((s.getD 0 0).toNat : Int) == 45) = false := by
    simp only [beq_eq_false_iff_ne, ne_eq]
    intro e
    exact h45 (UInt8.toNat_inj.1 (by have : (45 : UInt8).toNat = 45 := rfl; omega))
   obtain rfl : neg = false := by rw [HNG.out]; exact decide_eq_false (fun q => h45 q.2)
   have het : t = s := by rw [← Ht.out]; simp
   obtain rfl : m = n0 := by rw [← Hn0.out, ← Hm.out, het]
   rw [← het] at i0 f45 ⊢
   obtain ⟨y0, Hy0⟩ := nm (t.getD 0 0).toNat
   rw [Hy0.out] at i0 f45
   clear hz0 het
   clear h45 HNG Hneg
   go_enter Try.func65, Try.ntmps65
   go_upto_region 5 with fail
   go_cut [41] (fun s wx => s = .bool B ∧ wx = w)
   case first =>
    clear HMGE HR Ht
    by_cases q1 : m < 1
    ·
     have g1 : decide ((m : Int) < 1) = true := decide_eq_true (by omega)
     obtain rfl : B = true := by rw [← HB.out]; exact decide_eq_true (.inl q1)
     clear HB
     go_wp2_with fail
     go_meet
     case rel => exact ⟨rfl, rfl⟩
    ·
     have g1 : decide ((m : Int) < 1) = false := decide_eq_false (by omega)
     by_cases q2 : m > 19
     ·
      have g2 : decide ((19 : Int) < (m : Int)) = true := decide_eq_true (by omega)
      obtain rfl : B = true := by rw [← HB.out]; exact decide_eq_true (.inr (.inl q2))
      clear HB
      go_wp2_with fail
      go_meet
      case rel => exact ⟨rfl, rfl⟩
     ·
      have g2 : decide ((19 : Int) < (m : Int)) = false := decide_eq_false (by omega)
      have i3 := fun W => run_at_str hz (show 0 < m by omega) W
      rw [kx_kstr, show ((0 : Nat) : Int) = 0 from rfl] at i3
      have hh : (t.head? = some 48) ↔ (t.getD 0 0).toNat = 48 := by
       cases t with
       | nil => have := Hm.out; simp at this; omega
       | cons a r =>
        simp only [List.head?_cons, Option.some.injEq, List.getD_cons_zero]
        constructor
        ·
         rintro rfl; rfl
        ·
         intro e; exact UInt8.toNat_inj.1 e
      have HB2 : decide (m < 1 ∨ m > 19 ∨ ((t.getD 0 0).toNat = 48 ∧ (m > 1 ∨ false = true))) = B := by rw [← HB.out]; exact decide_eq_decide.2 (by rw [hh])
      have HB := Lib.hid HB2
      clear hh HB2
      rw [Hy0.out] at i3 HB
      obtain ⟨y, rfl⟩ : ∃ y, y = y0 := ⟨_, rfl⟩
      by_cases q3 : y = 48
      ·
       have g3 : ((y : Int) == 48) = true := by rw [q3]; rfl
       by_cases q4 : m > 1
       ·
        have g4 : decide ((1 : Int) < (m : Int)) = true := decide_eq_true (by omega)
        obtain rfl : B = true := by rw [← HB.out]; exact decide_eq_true (.inr (.inr ⟨q3, .inl q4⟩))
        clear HB q3
        go_wp2_with fail
        go_meet
        case rel => exact ⟨rfl, rfl⟩
       ·
        have g4 : decide ((1 : Int) < (m : Int)) = false := decide_eq_false (by omega)
        obtain rfl : B = false := by
         rw [← HB.out, Bool.eq_iff_iff, decide_eq_true_eq]
         constructor
         ·
          rintro (h | h | ⟨_, h | h⟩)
          ·
           omega
          ·
           omega
          ·
           omega
          ·
           exact h
         ·
          intro h; exact .inr (.inr ⟨q3, .inr h⟩)
        clear HB q3
        go_wp2_with fail
        go_meet
        case rel => exact ⟨rfl, rfl⟩
      ·
       have g3 : ((y : Int) == 48) = false := by simp; omega
       obtain rfl : B = false := by rw [← HB.out]; exact decide_eq_false (by omega)
       clear HB q3
       go_wp2_with fail
       go_meet
       case rel => exact ⟨rfl, rfl⟩
   case rest =>
    obtain ⟨rfl, hwc⟩ := hcut
    have hwc2 : w = wc := hwc.symm
    subst hwc2
    cases B with
    | true =>
     have HN : Hid (magF t false = none) := by show _ = _; rw [HMGE.out, if_pos rfl]
     clear HMGE HB
     go_wp2_with fail
     go_ret2
     exact ⟨by rw [← Hz1.out, ← Hz2.out, HR.out, HN.out]; rfl, rfl⟩
    | false =>
     have HMG : Hid (magF t false = if t.all isDg then if digF t 0 > limF false then none else some (sgnF false (digF t 0)) else none) := by show _ = _; rw [HMGE.out, if_neg (by decide)]
     have hm19 : m ≤ 19 := by
      have := HB.out
      rw [decide_eq_false_iff_not] at this
      omega
     clear HMGE HB
     go_wp2_with fail
     go_loopg [6, 7] m (fun g a b wr => ∃ k : Nat, Hid (g = m - k) ∧ k ≤ m ∧ b = .int .i64 k ∧ a = .int .u64 (digF (t.take k) 0) ∧ Hid ((t.take k).all isDg = true) ∧ wr = w)
     case atStart => exact ⟨0, rfl, by omega, rfl, rfl, rfl, rfl⟩
     case round =>
      obtain ⟨k, Hg, hk, rfl, rfl, HA, hw⟩ := hrel
      subst hw
      have hlt18 := dig_lt (t.take k).length (t.take k) rfl HA.out
      have hkl : (t.take k).length = k := by rw [List.length_take, Hm.out]; omega
      rw [hkl] at hlt18
      obtain ⟨n, Hdn⟩ := nm (digF (t.take k) 0)
      rw [Hdn.out] at hlt18 ⊢
      by_cases hlt : k < m
      ·
       have ti : decide ((k : Int) < (m : Int)) = true := decide_eq_true (by omega)
       have hn18 : n < 1000000000000000000 := by
        have : (10 : Nat) ^ k ≤ 10 ^ 18 := Nat.pow_le_pow_right (by omega) (by omega)
        omega
       have hkt : k < t.length := by rw [Hm.out]; exact hlt
       have i1 := fun W => run_at_str hz hlt W
       rw [kx_kstr] at i1
       have HT := Lib.hid (take_dig hkt)
       obtain ⟨c, Hc⟩ := nm (t.getD k 0)
       rw [Hc.out] at i1 HT
       have HD : Hid (isDg c = decide (48 ≤ c.toNat ∧ c.toNat ≤ 57)) := rfl
       have HDG := Lib.hid (digF_snoc (t.take k) c)
       rw [← HT.out, Hdn.out] at HDG
       have HAL : Hid ((t.take (k + 1)).all isDg = isDg c) := by show _ = _; rw [HT.out, List.all_append, HA.out]; simp
       have HNO : Hid (isDg c = false → magF t false = none) := fun q => by
        rw [HMG.out]
        rw [if_neg]
        intro q2
        rw [List.all_eq_true] at q2
        have : c ∈ t := by rw [← Hc.out, getD_of hkt]; exact List.getElem_mem _
        rw [q2 c this] at q; cases q
       generalize c.toNat = y at i1 HD HDG
       obtain ⟨dg, Hdg⟩ := nm (isDg c)
       rw [Hdg.out] at HD HAL HNO
       clear hlt18 hkl HT HA
       by_cases hy1 : y < 48
       ·
        have f1 : decide ((y : Int) < 48) = true := decide_eq_true (by omega)
        obtain rfl : dg = false := by rw [HD.out]; exact decide_eq_false (by omega)
        have HN := Lib.hid (HNO.out rfl)
        clear hy1 HD HDG HAL HNO
        go_wp2_with fail
        go_ret2
        exact ⟨by rw [← Hz1.out, ← Hz2.out, HR.out, HN.out]; rfl, rfl⟩
       ·
        have f1 : decide ((y : Int) < 48) = false := decide_eq_false (by omega)
        by_cases hy2 : 57 < y
        ·
         have f2 : decide ((57 : Int) < (y : Int)) = true := decide_eq_true (by omega)
         obtain rfl : dg = false := by rw [HD.out]; exact decide_eq_false (by omega)
         have HN := Lib.hid (HNO.out rfl)
         clear hy1 hy2 HD HDG HAL HNO
         go_wp2_with fail
         go_ret2
         exact ⟨by rw [← Hz1.out, ← Hz2.out, HR.out, HN.out]; rfl, rfl⟩
        ·
         have f2 : decide ((57 : Int) < (y : Int)) = false := decide_eq_false (by omega)
         obtain rfl : dg = true := by rw [HD.out]; exact decide_eq_true (by omega)
         have w1 : IntKind.u64.wrap (10 * (n : Int)) = 10 * (n : Int) := by rw [IntKind.wrap_u64]; omega
         have w2 : IntKind.u8.wrap ((y : Int) - 48) = (y : Int) - 48 := by rw [IntKind.wrap_u8]; omega
         have w3 : IntKind.u64.wrap ((y : Int) - 48) = (y : Int) - 48 := by rw [IntKind.wrap_u64]; omega
         have w4 : IntKind.u64.wrap (10 * (n : Int) + ((y : Int) - 48)) = 10 * (n : Int) + ((y : Int) - 48) := by rw [IntKind.wrap_u64]; omega
         have hy3 : 48 ≤ y := by omega
         clear HD HNO
         go_wp2_with fail
         go_roundg (m - (k + 1))
         case measure => rw [Hg.out]; omega
         case rel => exact ⟨k + 1, rfl, by omega, by go_num, by rw [HDG.out]; congr 1; omega, HAL.out, rfl⟩
      ·
       have HKM : Hid (m = k) := by show _ = _; omega
       have hall : t.all isDg = true := by
        have := HA.out
        rwa [List.take_of_length_le (by rw [Hm.out, HKM.out]; exact Nat.le_refl _)] at this
       have HM : Hid (magF t false = if n > limF false then none else some (sgnF false n)) := by
        show _ = _
        rw [HMG.out, if_pos hall, ← Hdn.out, List.take_of_length_le (by rw [Hm.out, HKM.out]; exact Nat.le_refl _)]
       have ti : decide ((k : Int) < (m : Int)) = false := decide_eq_false (by omega)
       have hn19 : n < 10000000000000000000 := by
        have : (10 : Nat) ^ k ≤ 10 ^ 19 := Nat.pow_le_pow_right (by omega) (by omega)
        omega
       clear hall HMG HA hlt18 hkl
       by_cases hb : n > 9223372036854775807
       ·
        have fb : decide ((9223372036854775807 : Int) < (n : Int)) = true := decide_eq_true (by omega)
        have HN : Hid (magF t false = none) := by show _ = _; rw [HM.out, if_pos (show n > limF false from hb)]
        clear HM
        go_wp2_with fail
        go_ret2
        exact ⟨by rw [← Hz1.out, ← Hz2.out, HR.out, HN.out]; rfl, rfl⟩
       ·
        have fb : decide ((9223372036854775807 : Int) < (n : Int)) = false := decide_eq_false (by omega)
        have HN : Hid (magF t false = some (n : Int)) := by show _ = _; rw [HM.out, if_neg (show ¬ n > limF false from hb)]; rfl
        have w5 : wrap64 (n : Int) = (n : Int) := by rw [wrap64]; omega
        clear HM
        go_wp2_with fail
        go_ret2
        exact ⟨by rw [← Hz1.out, ← Hz2.out, HR.out, HN.out]; rfl, rfl⟩
 ·
  have f0 : decide ((0 : Int) < (n0 : Int)) = false := decide_eq_false (by omega)
  obtain rfl : neg = false := by rw [HNG.out]; exact decide_eq_false (fun q => h0 q.1)
  have het : t = s := by rw [← Ht.out]; simp
  obtain rfl : m = n0 := by rw [← Hn0.out, ← Hm.out, het]
  rw [← het]
  clear hz0 het
  clear HNG Hneg
  go_enter Try.func65, Try.ntmps65
  go_upto_region 5 with fail
  go_cut [41] (fun s wx => s = .bool B ∧ wx = w)
  case first =>
   clear HMGE HR Ht
   by_cases q1 : m < 1
   ·
    have g1 : decide ((m : Int) < 1) = true := decide_eq_true (by omega)
    obtain rfl : B = true := by rw [← HB.out]; exact decide_eq_true (.inl q1)
    clear HB
    go_wp2_with fail
    go_meet
    case rel => exact ⟨rfl, rfl⟩
   ·
    have g1 : decide ((m : Int) < 1) = false := decide_eq_false (by omega)
    by_cases q2 : m > 19
    ·
     have g2 : decide ((19 : Int) < (m : Int)) = true := decide_eq_true (by omega)
     obtain rfl : B = true := by rw [← HB.out]; exact decide_eq_true (.inr (.inl q2))
     clear HB
     go_wp2_with fail
     go_meet
     case rel => exact ⟨rfl, rfl⟩
    ·
     have g2 : decide ((19 : Int) < (m : Int)) = false := decide_eq_false (by omega)
     have i3 := fun W => run_at_str hz (show 0 < m by omega) W
     rw [kx_kstr, show ((0 : Nat) : Int) = 0 from rfl] at i3
     have hh : (t.head? = some 48) ↔ (t.getD 0 0).toNat = 48 := by
      cases t with
      | nil => have := Hm.out; simp at this; omega
      | cons a r =>
       simp only [List.head?_cons, Option.some.injEq, List.getD_cons_zero]
       constructor
       ·
        rintro rfl; rfl
       ·
        intro e; exact UInt8.toNat_inj.1 e
     have HB2 : decide (m < 1 ∨ m > 19 ∨ ((t.getD 0 0).toNat = 48 ∧ (m > 1 ∨ false = true))) = B := by rw [← HB.out]; exact decide_eq_decide.2 (by rw [hh])
     have HB := Lib.hid HB2
     clear hh HB2
     generalize (t.getD 0 0).toNat = y at i3 HB
     by_cases q3 : y = 48
     ·
      have g3 : ((y : Int) == 48) = true := by rw [q3]; rfl
      by_cases q4 : m > 1
      ·
       have g4 : decide ((1 : Int) < (m : Int)) = true := decide_eq_true (by omega)
       obtain rfl : B = true := by rw [← HB.out]; exact decide_eq_true (.inr (.inr ⟨q3, .inl q4⟩))
       clear HB q3
       go_wp2_with fail
       go_meet
       case rel => exact ⟨rfl, rfl⟩
      ·
       have g4 : decide ((1 : Int) < (m : Int)) = false := decide_eq_false (by omega)
       obtain rfl : B = false := by
        rw [← HB.out, Bool.eq_iff_iff, decide_eq_true_eq]
        constructor
        ·
         rintro (h | h | ⟨_, h | h⟩)
         ·
          omega
         ·
          omega
         ·
          omega
         ·
          exact h
        ·
         intro h; exact .inr (.inr ⟨q3, .inr h⟩)
       clear HB q3
       go_wp2_with fail
       go_meet
       case rel => exact ⟨rfl, rfl⟩
     ·
      have g3 : ((y : Int) == 48) = false := by simp; omega
      obtain rfl : B = false := by rw [← HB.out]; exact decide_eq_false (by omega)
      clear HB q3
      go_wp2_with fail
      go_meet
      case rel => exact ⟨rfl, rfl⟩
  case rest =>
   obtain ⟨rfl, hwc⟩ := hcut
   have hwc2 : w = wc := hwc.symm
   subst hwc2
   cases B with
   | true =>
    have HN : Hid (magF t false = none) := by show _ = _; rw [HMGE.out, if_pos rfl]
    clear HMGE HB
    go_wp2_with fail
    go_ret2
    exact ⟨by rw [← Hz1.out, ← Hz2.out, HR.out, HN.out]; rfl, rfl⟩
   | false =>
    have HMG : Hid (magF t false = if t.all isDg then if digF t 0 > limF false then none else some (sgnF false (digF t 0)) else none) := by show _ = _; rw [HMGE.out, if_neg (by decide)]
    have hm19 : m ≤ 19 := by
     have := HB.out
     rw [decide_eq_false_iff_not] at this
     omega
    clear HMGE HB
    go_wp2_with fail
    go_loopg [6, 7] m (fun g a b wr => ∃ k : Nat, Hid (g = m - k) ∧ k ≤ m ∧ b = .int .i64 k ∧ a = .int .u64 (digF (t.take k) 0) ∧ Hid ((t.take k).all isDg = true) ∧ wr = w)
    case atStart => exact ⟨0, rfl, by omega, rfl, rfl, rfl, rfl⟩
    case round =>
     obtain ⟨k, Hg, hk, rfl, rfl, HA, hw⟩ := hrel
     subst hw
     have hlt18 := dig_lt (t.take k).length (t.take k) rfl HA.out
     have hkl : (t.take k).length = k := by rw [List.length_take, Hm.out]; omega
     rw [hkl] at hlt18
     obtain ⟨n, Hdn⟩ := nm (digF (t.take k) 0)
     rw [Hdn.out] at hlt18 ⊢
     by_cases hlt : k < m
     ·
      have ti : decide ((k : Int) < (m : Int)) = true := decide_eq_true (by omega)
      have hn18 : n < 1000000000000000000 := by
       have : (10 : Nat) ^ k ≤ 10 ^ 18 := Nat.pow_le_pow_right (by omega) (by omega)
       omega
      have hkt : k < t.length := by rw [Hm.out]; exact hlt
      have i1 := fun W => run_at_str hz hlt W
      rw [kx_kstr] at i1
      have HT := Lib.hid (take_dig hkt)
      obtain ⟨c, Hc⟩ := nm (t.getD k 0)
      rw [Hc.out] at i1 HT
      have HD : Hid (isDg c = decide (48 ≤ c.toNat ∧ c.toNat ≤ 57)) := rfl
      have HDG := Lib.hid (digF_snoc (t.take k) c)
      rw [← HT.out, Hdn.out] at HDG
      have HAL : Hid ((t.take (k + 1)).all isDg = isDg c) := by show _ = _; rw [HT.out, List.all_append, HA.out]; simp
      have HNO : Hid (isDg c = false → magF t false = none) := fun q => by
       rw [HMG.out]
       rw [if_neg]
       intro q2
       rw [List.all_eq_true] at q2
       have : c ∈ t := by rw [← Hc.out, getD_of hkt]; exact List.getElem_mem _
       rw [q2 c this] at q; cases q
      generalize c.toNat = y at i1 HD HDG
      obtain ⟨dg, Hdg⟩ := nm (isDg c)
      rw [Hdg.out] at HD HAL HNO
      clear hlt18 hkl HT HA
      by_cases hy1 : y < 48
      ·
       have f1 : decide ((y : Int) < 48) = true := decide_eq_true (by omega)
       obtain rfl : dg = false := by rw [HD.out]; exact decide_eq_false (by omega)
       have HN := Lib.hid (HNO.out rfl)
       clear hy1 HD HDG HAL HNO
       go_wp2_with fail
       go_ret2
       exact ⟨by rw [← Hz1.out, ← Hz2.out, HR.out, HN.out]; rfl, rfl⟩
      ·
       have f1 : decide ((y : Int) < 48) = false := decide_eq_false (by omega)
       by_cases hy2 : 57 < y
       ·
        have f2 : decide ((57 : Int) < (y : Int)) = true := decide_eq_true (by omega)
        obtain rfl : dg = false := by rw [HD.out]; exact decide_eq_false (by omega)
        have HN := Lib.hid (HNO.out rfl)
        clear hy1 hy2 HD HDG HAL HNO
        go_wp2_with fail
        go_ret2
        exact ⟨by rw [← Hz1.out, ← Hz2.out, HR.out, HN.out]; rfl, rfl⟩
       ·
        have f2 : decide ((57 : Int) < (y : Int)) = false := decide_eq_false (by omega)
        obtain rfl : dg = true := by rw [HD.out]; exact decide_eq_true (by omega)
        have w1 : IntKind.u64.wrap (10 * (n : Int)) = 10 * (n : Int) := by rw [IntKind.wrap_u64]; omega
        have w2 : IntKind.u8.wrap ((y : Int) - 48) = (y : Int) - 48 := by rw [IntKind.wrap_u8]; omega
        have w3 : IntKind.u64.wrap ((y : Int) - 48) = (y : Int) - 48 := by rw [IntKind.wrap_u64]; omega
        have w4 : IntKind.u64.wrap (10 * (n : Int) + ((y : Int) - 48)) = 10 * (n : Int) + ((y : Int) - 48) := by rw [IntKind.wrap_u64]; omega
        have hy3 : 48 ≤ y := by omega
        clear HD HNO
        go_wp2_with fail
        go_roundg (m - (k + 1))
        case measure => rw [Hg.out]; omega
        case rel => exact ⟨k + 1, rfl, by omega, by go_num, by rw [HDG.out]; congr 1; omega, HAL.out, rfl⟩
     ·
      have HKM : Hid (m = k) := by show _ = _; omega
      have hall : t.all isDg = true := by
       have := HA.out
       rwa [List.take_of_length_le (by rw [Hm.out, HKM.out]; exact Nat.le_refl _)] at this
      have HM : Hid (magF t false = if n > limF false then none else some (sgnF false n)) := by
       show _ = _
       rw [HMG.out, if_pos hall, ← Hdn.out, List.take_of_length_le (by rw [Hm.out, HKM.out]; exact Nat.le_refl _)]
      have ti : decide ((k : Int) < (m : Int)) = false := decide_eq_false (by omega)
      have hn19 : n < 10000000000000000000 := by
       have : (10 : Nat) ^ k ≤ 10 ^ 19 := Nat.pow_le_pow_right (by omega) (by omega)
       omega
      clear hall HMG HA hlt18 hkl
      by_cases hb : n > 9223372036854775807
      ·
       have fb : decide ((9223372036854775807 : Int) < (n : Int)) = true := decide_eq_true (by omega)
       have HN : Hid (magF t false = none) := by show _ = _; rw [HM.out, if_pos (show n > limF false from hb)]
       clear HM
       go_wp2_with fail
       go_ret2
       exact ⟨by rw [← Hz1.out, ← Hz2.out, HR.out, HN.out]; rfl, rfl⟩
      ·
       have fb : decide ((9223372036854775807 : Int) < (n : Int)) = false := decide_eq_false (by omega)
       have HN : Hid (magF t false = some (n : Int)) := by show _ = _; rw [HM.out, if_neg (show ¬ n > limF false from hb)]; rfl
       have w5 : wrap64 (n : Int) = (n : Int) := by rw [wrap64]; omega
       clear HM
       go_wp2_with fail
       go_ret2
       exact ⟨by rw [← Hz1.out, ← Hz2.out, HR.out, HN.out]; rfl, rfl⟩
end Go.Proofs.Ytblkgjdhaibhgaa
namespace Go.Proofs.Ytblkgjdhaibhgaa
open Go.RowKit
def sCells (L : List Bs) : List Value := L.map fun s => Value.string (kstr s)
theorem Sl.new' (w : World) (t : TypeId) (cs : List Value) {a : Array Value} (h : a = cs.toArray) : Sl (w.alloc (.cells a t)) (fun _ => True) (some ⟨w.heap.size, 0, none⟩) cs := by
 subst h
 exact (Sl.new w t cs).mono (fun _ _ _ => trivial)
theorem nameL_len : nameL.length = 28 := rfl
set_option maxRecDepth 100000 in
theorem tnames_c (w : World) : Calls Try.prog 76 #[] w fun e w' => e = .returned (.slice (some ⟨w.heap.size, 0, none⟩) 28 28) ∧ Sl w' (fun _ => True) (some ⟨w.heap.size, 0, none⟩) (sCells nameL) ∧ Upd Non w w' := by
 go_enter Try.func76, Try.ntmps76
 go_wp2_with fail
 go_ret
 exact ⟨rfl, Sl.new' w _ _ rfl, Upd.refl.alloc _⟩
theorem findL_step {l : List Bs} {k : Nat} (h : k < l.length) (s : Bs) (i : Nat) : findL (l.drop k) s i = if l[k] = s then some i else findL (l.drop (k + 1)) s (i + 1) := by
 rw [List.drop_eq_getElem_cons h]; rfl
set_option maxRecDepth 100000 in
set_option maxHeartbeats 1000000 in
theorem tOp_c (s : Bs) (w : World) : Calls Try.prog 88 #[.string (kstr s)] w fun e w' => e = .returned (.tuple #[.int .i64 ((opF s).getD 0), .bool (opF s).isSome]) ∧ Upd Non w w' := by
 have C := Lib.hid (tnames_c w)
 have HO : Hid (opF s = (findL nameL s 0).map (4 + ·)) := rfl
 obtain ⟨r, Hr⟩ := nm (opF s)
 rw [Hr.out] at HO
 rw [Hr.out]
 obtain ⟨z1, Hz1⟩ := nm (r.getD 0)
 obtain ⟨z2, Hz2⟩ := nm r.isSome
 rw [Hz1.out, Hz2.out]
 obtain ⟨str, Hstr⟩ := nm (kstr s)
 rw [Hstr.out]
 go_enter Try.func88, Try.ntmps88
 go_wp2_with fail
 refine C.out.mono ?_
 rintro e W ⟨rfl, hs, hu⟩
 clear C
 go_wp2_with fail
 obtain ⟨A, HA⟩ := nm (some (⟨w.heap.size, 0, none⟩ : Addr))
 rw [HA.out] at hs ⊢
 go_loopg [8] 28 (fun g i wr => ∃ k : Nat, Hid (g = 28 - k) ∧ k ≤ 28 ∧ i = .int .i64 k ∧ Hid (findL nameL s 0 = findL (nameL.drop k) s k) ∧ wr = W)
 case atStart => exact ⟨0, rfl, by omega, rfl, rfl, rfl⟩
 case round =>
  obtain ⟨k, Hg, hk, rfl, HK, hw⟩ := hrel
  subst hw
  by_cases hlt : k < 28
  ·
   have ti : decide ((k : Int) < 28) = true := decide_eq_true (by omega)
   have hkl : k < nameL.length := hlt
   obtain ⟨b, o, rfl, _, _, hc⟩ := hs.at_ (k := k) (by simpa [sCells] using hkl)
   have HF := Lib.hid (findL_step hkl s k)
   have hc2 : wr.cell? ⟨b, o + k, none⟩ = some (.string (kstr nameL[k])) := by rw [hc]; simp [sCells]
   generalize nameL[k] = nk at hc2 HF
   have hq : ((kstr nk).toList == str.toList) = decide (nk = s) := by rw [← Hstr.out, str_beq]
   obtain ⟨nks, Hnks⟩ := nm (kstr nk)
   rw [Hnks.out] at hc2 hq
   clear hc hs
   by_cases he : nk = s
   ·
    rw [decide_eq_true he] at hq
    have HR : Hid (r = some (4 + k)) := by show _ = _; rw [HO.out, HK.out, HF.out, if_pos he]; rfl
    clear he HF HK HO
    go_wp2_with fail
    go_ret2
    exact ⟨by rw [← Hz1.out, ← Hz2.out, HR.out]; rfl, hu⟩
   ·
    rw [decide_eq_false he] at hq
    have HK2 : Hid (findL nameL s 0 = findL (nameL.drop (k + 1)) s (k + 1)) := by show _ = _; rw [HK.out, HF.out, if_neg he]
    clear he HF HK
    go_wp2_with fail
    go_roundg (28 - (k + 1))
    case measure => rw [Hg.out]; omega
    case rel => exact ⟨k + 1, rfl, by omega, by go_num, HK2, rfl⟩
  ·
   obtain rfl : k = 28 := by omega
   have HR : Hid (r = none) := by show _ = _; rw [HO.out, HK.out, List.drop_of_length_le (by rw [nameL_len]; exact Nat.le_refl _)]; rfl
   clear HK HO
   go_wp2_with fail
   go_ret2
   exact ⟨by rw [← Hz1.out, ← Hz2.out, HR.out]; rfl, hu⟩
set_option maxHeartbeats 1000000 in
theorem rArity_c (op : Int) (w : World) : Calls Try.prog 80 #[.int .i64 op] w fun e w' => e = .returned (.tuple #[.int .i64 ((arF op).getD 0), .bool (arF op).isSome]) ∧ w' = w := by
 have HA : Hid (arF op = if op = 24 ∨ op = 20 ∨ op = 21 then some 1 else if op = 22 ∨ op = 28 then some 3 else if (4 ≤ op ∧ op ≤ 23) ∨ op = 27 ∨ op = 29 then some 2 else none) := rfl
 obtain ⟨r, Hr⟩ := nm (arF op)
 rw [Hr.out] at HA
 rw [Hr.out]
 obtain ⟨z1, Hz1⟩ := nm (r.getD 0)
 obtain ⟨z2, Hz2⟩ := nm r.isSome
 rw [Hz1.out, Hz2.out]
 by_cases h24 : op = 24
 ·
  have f24 : (op == 24) = true := by rw [h24]; rfl
  have HR : Hid (r = some 1) := by show _ = _; rw [HA.out, if_pos (by omega)]
  clear HA
  go_enter Try.func80, Try.ntmps80
  go_wp2_with fail
  go_ret2
  exact ⟨by rw [← Hz1.out, ← Hz2.out, HR.out]; rfl, rfl⟩
 ·
  have f24 : (op == 24) = false := by simpa using h24
  by_cases h20 : op = 20
  ·
   have f20 : (op == 20) = true := by rw [h20]; rfl
   have HR : Hid (r = some 1) := by show _ = _; rw [HA.out, if_pos (by omega)]
   clear HA
   go_enter Try.func80, Try.ntmps80
   go_wp2_with fail
   go_ret2
   exact ⟨by rw [← Hz1.out, ← Hz2.out, HR.out]; rfl, rfl⟩
  ·
   have f20 : (op == 20) = false := by simpa using h20
   by_cases h21 : op = 21
   ·
    have f21 : (op == 21) = true := by rw [h21]; rfl
    have HR : Hid (r = some 1) := by show _ = _; rw [HA.out, if_pos (by omega)]
    clear HA
    go_enter Try.func80, Try.ntmps80
    go_wp2_with fail
    go_ret2
    exact ⟨by rw [← Hz1.out, ← Hz2.out, HR.out]; rfl, rfl⟩
   ·
    have f21 : (op == 21) = false := by simpa using h21
    by_cases h22 : op = 22
    ·
     have f22 : (op == 22) = true := by rw [h22]; rfl
     have HR : Hid (r = some 3) := by show _ = _; rw [HA.out, if_neg (by omega), if_pos (by omega)]
     clear HA
     go_enter Try.func80, Try.ntmps80
     go_wp2_with fail
     go_ret2
     exact ⟨by rw [← Hz1.out, ← Hz2.out, HR.out]; rfl, rfl⟩
    ·
     have f22 : (op == 22) = false := by simpa using h22
     by_cases h28 : op = 28
     ·
      have f28 : (op == 28) = true := by rw [h28]; rfl
      have HR : Hid (r = some 3) := by show _ = _; rw [HA.out, if_neg (by omega), if_pos (by omega)]
      clear HA
      go_enter Try.func80, Try.ntmps80
      go_wp2_with fail
      go_ret2
      exact ⟨by rw [← Hz1.out, ← Hz2.out, HR.out]; rfl, rfl⟩
     ·
      have f28 : (op == 28) = false := by simpa using h28
      by_cases g1 : 4 ≤ op
      ·
       have e1 : decide ((4 : Int) ≤ op) = true := decide_eq_true g1
       by_cases g2 : op ≤ 23
       ·
        have e2 : decide (op ≤ (23 : Int)) = true := decide_eq_true g2
        have HR : Hid (r = some 2) := by show _ = _; rw [HA.out, if_neg (by omega), if_neg (by omega), if_pos (by omega)]
        clear HA
        go_enter Try.func80, Try.ntmps80
        go_wp2_with fail
        go_ret2
        exact ⟨by rw [← Hz1.out, ← Hz2.out, HR.out]; rfl, rfl⟩
       ·
        have e2 : decide (op ≤ (23 : Int)) = false := decide_eq_false g2
        by_cases h27 : op = 27
        ·
         have f27 : (op == 27) = true := by rw [h27]; rfl
         have HR : Hid (r = some 2) := by show _ = _; rw [HA.out, if_neg (by omega), if_neg (by omega), if_pos (by omega)]
         clear HA
         go_enter Try.func80, Try.ntmps80
         go_wp2_with fail
         go_ret2
         exact ⟨by rw [← Hz1.out, ← Hz2.out, HR.out]; rfl, rfl⟩
        ·
         have f27 : (op == 27) = false := by simpa using h27
         by_cases h29 : op = 29
         ·
          have f29 : (op == 29) = true := by rw [h29]; rfl
          have HR : Hid (r = some 2) := by show _ = _; rw [HA.out, if_neg (by omega), if_neg (by omega), if_pos (by omega)]
          clear HA
          go_enter Try.func80, Try.ntmps80
          go_wp2_with fail
          go_ret2
          exact ⟨by rw [← Hz1.out, ← Hz2.out, HR.out]; rfl, rfl⟩
         ·
          have f29 : (op == 29) = false := by simpa using h29
          have HR : Hid (r = none) := by show _ = _; rw [HA.out, if_neg (by omega), if_neg (by omega), if_neg (by omega)]
          clear HA
          go_enter Try.func80, Try.ntmps80
          go_wp2_with fail
          go_ret2
          exact ⟨by rw [← Hz1.out, ← Hz2.out, HR.out]; rfl, rfl⟩
      ·
       have e1 : decide ((4 : Int) ≤ op) = false := decide_eq_false g1
       have f27 : (op == 27) = false := by simp; omega
       have f29 : (op == 29) = false := by simp; omega
       have HR : Hid (r = none) := by show _ = _; rw [HA.out, if_neg (by omega), if_neg (by omega), if_neg (by omega)]
       clear HA
       go_enter Try.func80, Try.ntmps80
       go_wp2_with fail
       go_ret2
       exact ⟨by rw [← Hz1.out, ← Hz2.out, HR.out]; rfl, rfl⟩
theorem rHasImm_c (op : Int) (w : World) : Calls Try.prog 53 #[.int .i64 op] w fun e w' => e = .returned (.bool (immOp op)) ∧ w' = w := by
 have HA : Hid (immOp op = decide (op = 23 ∨ op = 27 ∨ op = 28)) := rfl
 obtain ⟨r, Hr⟩ := nm (immOp op)
 rw [Hr.out] at HA
 rw [Hr.out]
 by_cases h1 : op = 23
 ·
  have f1 : (op == 23) = true := by rw [h1]; rfl
  obtain rfl : r = true := by rw [HA.out]; exact decide_eq_true (by omega)
  go_enter Try.func53, Try.ntmps53
  go_wp2_with fail
  go_ret
  exact ⟨rfl, rfl⟩
 ·
  have f1 : (op == 23) = false := by simpa using h1
  by_cases h2 : op = 27
  ·
   have f2 : (op == 27) = true := by rw [h2]; rfl
   obtain rfl : r = true := by rw [HA.out]; exact decide_eq_true (by omega)
   go_enter Try.func53, Try.ntmps53
   go_wp2_with fail
   go_ret
   exact ⟨rfl, rfl⟩
  ·
   have f2 : (op == 27) = false := by simpa using h2
   obtain ⟨b, f3⟩ : ∃ b, (op == 28) = b := ⟨_, rfl⟩
   obtain rfl : r = b := by
    rw [HA.out, ← f3, Bool.eq_iff_iff, beq_iff_eq, decide_eq_true_eq]; omega
   go_enter Try.func53, Try.ntmps53
   go_wp2_with fail
   go_ret
   exact ⟨rfl, rfl⟩
end Go.Proofs.Ytblkgjdhaibhgaa
namespace Go.Proofs.Ytblkgjdhaibhgaa
open Go.RowKit
structure Keeps (w : World) (p : Nat) (x y : St) : Prop where
 i : y.i = x.i
 why : y.why = x.why
 ea : y.ea = x.ea
 left : y.left = x.left
 own : ∀ k, y.own p k → x.own p k ∨ w.heap.size ≤ k
theorem Keeps.refl {w : World} {p : Nat} {x : St} : Keeps w p x x := ⟨rfl, rfl, rfl, rfl, fun _ h => .inl h⟩
theorem varF_short {s : Bs} (h : s.length ≠ 2) (c : Nat) (l : Bs) (left : Bool) : varF s c l left = (0, l) := by
 match s, h with
 | [], _ => rfl
 | [_], _ => rfl
 | _ :: _ :: _ :: _, _ => rfl
theorem rLookV_c {w : World} {p : Nat} {A : Option Addr} {c : Nat} {L : List Tok} {x : St} (h : RdS w p A c L x) (hn : x.vs.length ≤ 100000) (ch : UInt8) (left : Bool) :
  Calls Try.prog 82 #[.pointer (some ⟨p, 4, none⟩), .int .u8 ch.toNat, .bool left] w fun e w' => e = .returned (.int .i64 (lookF x.vs ch left).1) ∧ ∃ y, RdS w' p A c L y ∧ y.vs = (lookF x.vs ch left).2 ∧ y.ms = x.ms ∧ Keeps w p x y ∧ Upd (x.own p) w w' := by
 refine (rLookup_c w p 4 57 _ x.va x.vc x.vs h.blk rfl h.v h.vp ch left hn).mono ?_
 rintro e w' ⟨rfl, VA, vc, hb, hv, hat, hu⟩
 refine ⟨rfl, { x with va := VA, vc := vc, vs := (lookF x.vs ch left).2 }, ⟨hb, ?_, h.le, hv, (h.m.upd hu (fun k hk q => by rcases q with q | q; exact h.mp (q ▸ hk); exact h.vm k q hk)), ?_, ?_, ?_⟩, rfl, rfl, ⟨rfl, rfl, rfl, rfl, ?_⟩, ?_⟩
 ·
  exact h.tok.upd hu (fun k hk hp q => by
   rcases q with q | q
   ·
    omega
   ·
    have := h.vlt k q; omega)
 ·
  exact fun k hk q => by rcases hat k hk with r | r; exact h.vm k r q; have := h.m.lt q; omega
 ·
  exact fun k hk => by rcases hat k hk with r | r; exact h.vlt k r; have := h.blk.lt; omega
 ·
  exact h.mlt
 ·
  rintro k (q | q | q)
  ·
   exact .inl (.inl q)
  ·
   exact (hat k q).imp_left (fun r => .inr (.inl r))
  ·
   exact .inl (.inr (.inr q))
 ·
  exact hu.mono (fun k _ q => by
   rcases q with q | q
   ·
    exact .inl q
   ·
    exact .inr (.inl q))
set_option maxHeartbeats 1000000 in
theorem rVarV_c {w : World} {p : Nat} {A : Option Addr} {c : Nat} {L : List Tok} {x : St} (h : RdS w p A c L x) (hn : x.vs.length ≤ 100000) (s : Bs) (cc : UInt8) (hs : s.length ≤ 1000000) :
  Calls Try.prog 66 #[.pointer (some ⟨p, 0, none⟩), .string (kstr s), .int .u8 cc.toNat, .pointer (some ⟨p, 4, none⟩)] w fun e w' => e = .returned (.int .i64 (varF s cc.toNat x.vs x.left).1) ∧ ∃ y, RdS w' p A c L y ∧ y.vs = (varF s cc.toNat x.vs x.left).2 ∧ y.ms = x.ms ∧ Keeps w p x y ∧ Upd (x.own p) w w' := by
 have hz : (kstr s).size = s.length := kstr_size s
 by_cases h2 : s.length = 2
 ·
  match s, h2 with
  | [a, b], _ =>
   have i0 := fun W => run_at_str hz (show 0 < 2 by omega) W
   have i1 := fun W => run_at_str hz (show 1 < 2 by omega) W
   rw [kx_kstr, show ([a, b] : Bs).getD 0 0 = a from rfl, show ((0 : Nat) : Int) = 0 from rfl] at i0
   rw [kx_kstr, show ([a, b] : Bs).getD 1 0 = b from rfl, show ((1 : Nat) : Int) = 1 from rfl] at i1
   rw [show ([a, b] : Bs).length = 2 from rfl] at hz
   have HV : Hid (varF [a, b] cc.toNat x.vs x.left = if a.toNat = cc.toNat ∧ isLw b = true then lookF x.vs b x.left else (0, x.vs)) := rfl
   obtain ⟨str, Hstr⟩ := nm (kstr [a, b])
   rw [Hstr.out] at hz i0 i1
   rw [Hstr.out]
   by_cases ha : a.toNat = cc.toNat
   ·
    have f0 : (((a.toNat : Nat) : Int) != ((cc.toNat : Nat) : Int)) = false := by rw [ha]; simp
    have CL := Lib.hid (rIsLower_c b w)
    obtain ⟨lw, Hlw⟩ := nm (isLw b)
    rw [Hlw.out] at CL HV
    cases lw with
    | true =>
     have HV2 : Hid (varF [a, b] cc.toNat x.vs x.left = lookF x.vs b x.left) := by show _ = _; rw [HV.out, if_pos ⟨ha, rfl⟩]
     obtain ⟨c0, c1, c2, c3, c4, c5, c6⟩ := h.cells
     have H := Lib.hid h
     clear ha HV h c0 c1 c2 c3 c4 c5
     go_enter Try.func66, Try.ntmps66
     go_wp2_with fail
     refine CL.out.mono ?_
     rintro e w1 ⟨rfl, rfl⟩
     go_upto_region 3 with fail
     obtain ⟨wD, HwD⟩ := nm w1.drew
     have uD : Upd Non w1 wD := by rw [← HwD.out]; exact Upd.refl.drew
     have C := Lib.hid (rLookV_c (H.out.non uD) hn b x.left)
     refine wp_region_held_drew (S := fun w' => w'.cell? ⟨p, 6, none⟩ = some (.bool x.left)) (by kernel_rfl) (by rw [HwD.out]; exact cell_upd c6 uD (fun f => f)) (fun hHeld => ?_)
     rw [HwD.out] at hHeld ⊢
     refine wpT 0 ?_
     try simp only [put_y]
     try simp only [Act.put]
     try simp only [put_z]
     refine wpT 1 ?_
     try simp only [put_y]
     try simp only [Act.put]
     try simp only [put_z]
     refine wpT 2 ?_
     try simp only [put_y]
     try simp only [Act.put]
     try simp only [put_z]
     refine wpT 3 ?_
     try simp only [put_y]
     try simp only [Act.put]
     try simp only [put_z]
     refine wpT 4 ?_
     try simp only [put_y]
     try simp only [Act.put]
     try simp only [put_z]
     refine wpT 5 ?_
     try simp only [put_y]
     try simp only [Act.put]
     try simp only [put_z]
     refine wpT 6 ?_
     try simp only [put_y]
     try simp only [Act.put]
     try simp only [put_z]
     refine wpAnyH_ready (rs := [7]) (by kernel_rfl) (by simp) ?_
     refine AllReadyH.cons rfl (fun K hK => ?_) AllReadyH.nil
     go_simp
     refine C.out.mono ?_
     rintro e w2 ⟨rfl, y, hy, hy1, hy2, hk, hu⟩
     go_wp2_with fail
     have d6 := hy.cells.2.2.2.2.2.2
     rw [hk.left] at d6
     refine hK.out _ _ ?_ (fun hHeld => ?_)
     ·
      exact d6
     clear hK K
     try simp only [put_y]
     try simp only [Act.put]
     try simp only [put_z]
     refine wpT 8 ?_
     try simp only [put_y]
     try simp only [Act.put]
     try simp only [put_z]
     refine wpAnyH_done (by kernel_rfl) ?_ _
     have hk2 : Keeps w1 p x y := ⟨hk.i, hk.why, hk.ea, hk.left, fun k q => (hk.own k q).imp_right (fun r => Nat.le_trans uD.size r)⟩
     have hu2 : Upd (x.own p) w1 w2 := (uD.mono (fun _ _ f => f.elim)).trans hu (fun _ _ h => h)
     have hv2 := HV2.out
     clear hHeld C CL
     go_wp2_with fail
     go_ret
     refine ⟨by rw [hv2]; rfl, y, hy, by rw [hv2]; exact hy1, hy2, hk2, hu2⟩
    | false =>
     have HV2 : Hid (varF [a, b] cc.toNat x.vs x.left = (0, x.vs)) := by show _ = _; rw [HV.out, if_neg (fun q => by cases q.2)]
     have H := Lib.hid h
     clear ha HV h
     go_enter Try.func66, Try.ntmps66
     go_wp2_with fail
     refine CL.out.mono ?_
     rintro e w1 ⟨rfl, rfl⟩
     go_wp2_with fail
     go_ret
     exact ⟨by rw [HV2.out]; rfl, x, H.out, by rw [HV2.out], rfl, Keeps.refl, Upd.refl⟩
   ·
    have f0 : (((a.toNat : Nat) : Int) != ((cc.toNat : Nat) : Int)) = true := by simp; omega
    have HV2 : Hid (varF [a, b] cc.toNat x.vs x.left = (0, x.vs)) := by show _ = _; rw [HV.out, if_neg (fun q => ha q.1)]
    have H := Lib.hid h
    clear ha HV h
    go_enter Try.func66, Try.ntmps66
    go_wp2_with fail
    go_ret
    exact ⟨by rw [HV2.out]; rfl, x, H.out, by rw [HV2.out], rfl, Keeps.refl, Upd.refl⟩
 ·
  have hv := varF_short h2 cc.toNat x.vs x.left
  have HV := Lib.hid hv
  have H := Lib.hid h
  obtain ⟨n, Hn⟩ := nm s.length
  rw [Hn.out] at hz hs h2
  have f0 : (((n : Nat) : Int) != 2) = true := by simp; omega
  obtain ⟨str, Hstr⟩ := nm (kstr s)
  rw [Hstr.out] at hz
  rw [Hstr.out]
  clear hv h
  go_enter Try.func66, Try.ntmps66
  go_wp2_with fail
  go_ret
  exact ⟨by rw [HV.out]; rfl, x, H.out, by rw [HV.out], rfl, Keeps.refl, Upd.refl⟩
theorem rLookM_c {w : World} {p : Nat} {A : Option Addr} {c : Nat} {L : List Tok} {x : St} (h : RdS w p A c L x) (hn : x.ms.length ≤ 100000) (ch : UInt8) (left : Bool) :
  Calls Try.prog 82 #[.pointer (some ⟨p, 5, none⟩), .int .u8 ch.toNat, .bool left] w fun e w' => e = .returned (.int .i64 (lookF x.ms ch left).1) ∧ ∃ y, RdS w' p A c L y ∧ y.ms = (lookF x.ms ch left).2 ∧ y.vs = x.vs ∧ Keeps w p x y ∧ Upd (x.own p) w w' := by
 refine (rLookup_c w p 5 57 _ x.ma x.mc x.ms h.blk rfl h.m h.mp ch left hn).mono ?_
 rintro e w' ⟨rfl, VA, vc, hb, hv, hat, hu⟩
 refine ⟨rfl, { x with ma := VA, mc := vc, ms := (lookF x.ms ch left).2 }, ⟨hb, ?_, h.le, (h.v.upd hu (fun k hk q => by rcases q with q | q; exact h.vp (q ▸ hk); exact h.vm k hk q)), hv, ?_, ?_, ?_⟩, rfl, rfl, ⟨rfl, rfl, rfl, rfl, ?_⟩, ?_⟩
 ·
  exact h.tok.upd hu (fun k hk hp q => by
   rcases q with q | q
   ·
    omega
   ·
    have := h.mlt k q; omega)
 ·
  exact fun k hk q => by rcases hat k q with r | r; exact h.vm k hk r; have := h.v.lt hk; omega
 ·
  exact h.vlt
 ·
  exact fun k hk => by rcases hat k hk with r | r; exact h.mlt k r; have := h.blk.lt; omega
 ·
  rintro k (q | q | q)
  ·
   exact .inl (.inl q)
  ·
   exact .inl (.inr (.inl q))
  ·
   exact (hat k q).imp_left (fun r => .inr (.inr r))
 ·
  exact hu.mono (fun k _ q => by
   rcases q with q | q
   ·
    exact .inl q
   ·
    exact .inr (.inr q))
set_option maxHeartbeats 1000000 in
theorem rVarM_c {w : World} {p : Nat} {A : Option Addr} {c : Nat} {L : List Tok} {x : St} (h : RdS w p A c L x) (hn : x.ms.length ≤ 100000) (s : Bs) (cc : UInt8) (hs : s.length ≤ 1000000) :
  Calls Try.prog 66 #[.pointer (some ⟨p, 0, none⟩), .string (kstr s), .int .u8 cc.toNat, .pointer (some ⟨p, 5, none⟩)] w fun e w' => e = .returned (.int .i64 (varF s cc.toNat x.ms x.left).1) ∧ ∃ y, RdS w' p A c L y ∧ y.ms = (varF s cc.toNat x.ms x.left).2 ∧ y.vs = x.vs ∧ Keeps w p x y ∧ Upd (x.own p) w w' := by
 have hz : (kstr s).size = s.length := kstr_size s
 by_cases h2 : s.length = 2
 ·
  match s, h2 with
  | [a, b], _ =>
   have i0 := fun W => run_at_str hz (show 0 < 2 by omega) W
   have i1 := fun W => run_at_str hz (show 1 < 2 by omega) W
   rw [kx_kstr, show ([a, b] : Bs).getD 0 0 = a from rfl, show ((0 : Nat) : Int) = 0 from rfl] at i0
   rw [kx_kstr, show ([a, b] : Bs).getD 1 0 = b from rfl, show ((1 : Nat) : Int) = 1 from rfl] at i1
   rw [show ([a, b] : Bs).length = 2 from rfl] at hz
   have HV : Hid (varF [a, b] cc.toNat x.ms x.left = if a.toNat = cc.toNat ∧ isLw b = true then lookF x.ms b x.left else (0, x.ms)) := rfl
   obtain ⟨str, Hstr⟩ := nm (kstr [a, b])
   rw [Hstr.out] at hz i0 i1
   rw [Hstr.out]
   by_cases ha : a.toNat = cc.toNat
   ·
    have f0 : (((a.toNat : Nat) : Int) != ((cc.toNat : Nat) : Int)) = false := by rw [ha]; simp
    have CL := Lib.hid (rIsLower_c b w)
    obtain ⟨lw, Hlw⟩ := nm (isLw b)
    rw [Hlw.out] at CL HV
    cases lw with
    | true =>
     have HV2 : Hid (varF [a, b] cc.toNat x.ms x.left = lookF x.ms b x.left) := by show _ = _; rw [HV.out, if_pos ⟨ha, rfl⟩]
     obtain ⟨c0, c1, c2, c3, c4, c5, c6⟩ := h.cells
     have H := Lib.hid h
     clear ha HV h c0 c1 c2 c3 c4 c5
     go_enter Try.func66, Try.ntmps66
     go_wp2_with fail
     refine CL.out.mono ?_
     rintro e w1 ⟨rfl, rfl⟩
     go_upto_region 3 with fail
     obtain ⟨wD, HwD⟩ := nm w1.drew
     have uD : Upd Non w1 wD := by rw [← HwD.out]; exact Upd.refl.drew
     have C := Lib.hid (rLookM_c (H.out.non uD) hn b x.left)
     refine wp_region_held_drew (S := fun w' => w'.cell? ⟨p, 6, none⟩ = some (.bool x.left)) (by kernel_rfl) (by rw [HwD.out]; exact cell_upd c6 uD (fun f => f)) (fun hHeld => ?_)
     rw [HwD.out] at hHeld ⊢
     refine wpT 0 ?_
     try simp only [put_y]
     try simp only [Act.put]
     try simp only [put_z]
     refine wpT 1 ?_
     try simp only [put_y]
     try simp only [Act.put]
     try simp only [put_z]
     refine wpT 2 ?_
     try simp only [put_y]
     try simp only [Act.put]
     try simp only [put_z]
     refine wpT 3 ?_
     try simp only [put_y]
     try simp only [Act.put]
     try simp only [put_z]
     refine wpT 4 ?_
     try simp only [put_y]
     try simp only [Act.put]
     try simp only [put_z]
     refine wpT 5 ?_
     try simp only [put_y]
     try simp only [Act.put]
     try simp only [put_z]
     refine wpT 6 ?_
     try simp only [put_y]
     try simp only [Act.put]
     try simp only [put_z]
     refine wpAnyH_ready (rs := [7]) (by kernel_rfl) (by simp) ?_
     refine AllReadyH.cons rfl (fun K hK => ?_) AllReadyH.nil
     go_simp
     refine C.out.mono ?_
     rintro e w2 ⟨rfl, y, hy, hy1, hy2, hk, hu⟩
     go_wp2_with fail
     have d6 := hy.cells.2.2.2.2.2.2
     rw [hk.left] at d6
     refine hK.out _ _ ?_ (fun hHeld => ?_)
     ·
      exact d6
     clear hK K
     try simp only [put_y]
     try simp only [Act.put]
     try simp only [put_z]
     refine wpT 8 ?_
     try simp only [put_y]
     try simp only [Act.put]
     try simp only [put_z]
     refine wpAnyH_done (by kernel_rfl) ?_ _
     have hk2 : Keeps w1 p x y := ⟨hk.i, hk.why, hk.ea, hk.left, fun k q => (hk.own k q).imp_right (fun r => Nat.le_trans uD.size r)⟩
     have hu2 : Upd (x.own p) w1 w2 := (uD.mono (fun _ _ f => f.elim)).trans hu (fun _ _ h => h)
     have hv2 := HV2.out
     clear hHeld C CL
     go_wp2_with fail
     go_ret
     refine ⟨by rw [hv2]; rfl, y, hy, by rw [hv2]; exact hy1, hy2, hk2, hu2⟩
    | false =>
     have HV2 : Hid (varF [a, b] cc.toNat x.ms x.left = (0, x.ms)) := by show _ = _; rw [HV.out, if_neg (fun q => by cases q.2)]
     have H := Lib.hid h
     clear ha HV h
     go_enter Try.func66, Try.ntmps66
     go_wp2_with fail
     refine CL.out.mono ?_
     rintro e w1 ⟨rfl, rfl⟩
     go_wp2_with fail
     go_ret
     exact ⟨by rw [HV2.out]; rfl, x, H.out, by rw [HV2.out], rfl, Keeps.refl, Upd.refl⟩
   ·
    have f0 : (((a.toNat : Nat) : Int) != ((cc.toNat : Nat) : Int)) = true := by simp; omega
    have HV2 : Hid (varF [a, b] cc.toNat x.ms x.left = (0, x.ms)) := by show _ = _; rw [HV.out, if_neg (fun q => ha q.1)]
    have H := Lib.hid h
    clear ha HV h
    go_enter Try.func66, Try.ntmps66
    go_wp2_with fail
    go_ret
    exact ⟨by rw [HV2.out]; rfl, x, H.out, by rw [HV2.out], rfl, Keeps.refl, Upd.refl⟩
 ·
  have hv := varF_short h2 cc.toNat x.ms x.left
  have HV := Lib.hid hv
  have H := Lib.hid h
  obtain ⟨n, Hn⟩ := nm s.length
  rw [Hn.out] at hz hs h2
  have f0 : (((n : Nat) : Int) != 2) = true := by simp; omega
  obtain ⟨str, Hstr⟩ := nm (kstr s)
  rw [Hstr.out] at hz
  rw [Hstr.out]
  clear hv h
  go_enter Try.func66, Try.ntmps66
  go_wp2_with fail
  go_ret
  exact ⟨by rw [HV.out]; rfl, x, H.out, by rw [HV.out], rfl, Keeps.refl, Upd.refl⟩
end Go.Proofs.Ytblkgjdhaibhgaa
namespace Go.Proofs.Ytblkgjdhaibhgaa
open Go.RowKit
def dotF (s : Bs) : Nat := (s.takeWhile (fun c => decide (c.toNat ≠ 46))).length
theorem dot_step {s : Bs} {k : Nat} (h : k < s.length) : dotF (s.drop k) = if (s.getD k 0).toNat = 46 then 0 else dotF (s.drop (k + 1)) + 1 := by
 rw [drop_cons h]
 unfold dotF
 rw [List.takeWhile_cons]
 generalize s.getD k 0 = ch
 by_cases e : ch.toNat = 46
 ·
  rw [if_pos e, if_neg (by simp [e])]; rfl
 ·
  rw [if_neg e, if_pos (by simp [e])]; rfl
theorem dot_take (s : Bs) : s.take (dotF s) = s.takeWhile (fun c => decide (c.toNat ≠ 46)) := by
 unfold dotF
 induction s with
 | nil => rfl
 | cons a r ih =>
  rw [List.takeWhile_cons]
  split
  ·
   rw [List.length_cons, List.take_succ_cons, ih]
  ·
   rfl
theorem dot_le (s : Bs) : dotF s ≤ s.length := by
 unfold dotF
 exact (List.takeWhile_sublist _).length_le
def psOf (x : St) : PS := ⟨x.i, x.vs, x.ms⟩
theorem oper_eq (left : Bool) (s : Bs) (x : PS) : operF left s x = (match opF (s.take (dotF s)) with
  | none => none
  | some op =>
   if (arF op).isNone ∨ immOp op ≠ decide (dotF s < s.length) then none
   else if immOp op = false then some (.mk 0 op 0 0 [], x)
   else match decF (s.drop (dotF s + 1)) with
    | some n => some (.mk 0 op n 0 [], x)
    | none => match s.drop (dotF s + 1) with
     | [c] => if isLw c = true ∧ 0 < (lookF x.ms c left).1 then some (.mk 0 op 0 (lookF x.ms c left).1 [], { x with ms := (lookF x.ms c left).2 }) else none
     | _ => none) := by
 have e : (s.drop (dotF s)).tail = s.drop (dotF s + 1) := by rw [List.tail_drop]
 rw [dot_take]
 unfold operF
 dsimp only
 rw [show (List.takeWhile (fun c => decide (c.toNat ≠ 46)) s).length = dotF s from rfl, e]
 rfl
def OperP (w : World) (p : Nat) (A : Option Addr) (c : Nat) (L : List Tok) (x : St) (o : Option (Pt × PS)) (e : Ending) (w' : World) : Prop :=
 ∃ (q : Pt) (b : Bool) (y : St), e = .returned (.tuple #[pv q none 0, .bool b]) ∧ q.kids = [] ∧ RdS w' p A c L y ∧ y.vs = x.vs ∧ Keeps w p x y ∧ Upd (x.own p) w w' ∧ (b = true → ∃ ps, o = some (q, ps) ∧ ps.i = x.i ∧ ps.vs = x.vs ∧ y.ms = ps.ms) ∧ (b = false → o = none)
set_option maxRecDepth 100000 in
set_option maxHeartbeats 4000000 in
theorem rOperation_c {w : World} {p : Nat} {A : Option Addr} {c : Nat} {L : List Tok} {x : St} (h : RdS w p A c L x) (hn : x.ms.length ≤ 100000) (s : Bs) (hs : s.length ≤ 1000000) :
  Calls Try.prog 79 #[.pointer (some ⟨p, 0, none⟩), .string (kstr s)] w (OperP w p A c L x (operF x.left s (psOf x))) := by
 have HO : Hid (operF x.left s (psOf x) = _) := oper_eq x.left s (psOf x)
 obtain ⟨o, Ho⟩ := nm (operF x.left s (psOf x))
 rw [Ho.out] at HO
 rw [Ho.out]
 have hz : (kstr s).size = s.length := kstr_size s
 obtain ⟨n, Hn⟩ := nm s.length
 rw [Hn.out] at hz hs HO
 have hdl := dot_le s
 rw [Hn.out] at hdl
 obtain ⟨W, HW⟩ := nm (w.alloc (.cells #[.int .i64 0, .int .i64 0, .int .i64 0, .int .i64 0, .slice none 0 0] 30))
 have hU : Upd Non w W := by rw [← HW.out]; exact Upd.refl.alloc _
 have hb : Blk W w.heap.size 30 #[.int .i64 0, .int .i64 0, .int .i64 0, .int .i64 0, .slice none 0 0] := by rw [← HW.out]; exact Blk.new _ _ _
 have e0 := HW.out
 have hpw : p < w.heap.size := h.blk.lt
 have HR := Lib.hid (h.non hU)
 have H := Lib.hid h
 have HB := Lib.hid hb
 have HUU := Lib.hid hU
 clear h hb hU HW
 go_enter Try.func79, Try.ntmps79
 go_wp2_with fail
 go_loopg [6] (n + 1) (fun g a wr => ∃ k : Nat, Hid (g = n + 1 - k) ∧ k ≤ n ∧ a = .int .i64 k ∧ Hid (dotF s = k + dotF (s.drop k)) ∧ wr = W)
 case atStart => exact ⟨0, rfl, by omega, rfl, by show _ = _; rw [List.drop_zero]; omega, rfl⟩
 case round =>
  obtain ⟨k, Hg, hk, rfl, HK, hwr⟩ := hrel
  subst hwr
  obtain ⟨D, HD⟩ := nm (decide (k < n) && decide ((s.getD k 0).toNat ≠ 46))
  go_upto_region 2 with fail
  go_cut [24] (fun s wx => s = .bool D ∧ wx = wr)
  case first =>
   by_cases hlt : k < n
   ·
    have ti : decide ((k : Int) < (n : Int)) = true := decide_eq_true (by omega)
    have i1 := fun W => run_at_str hz hlt W
    rw [kx_kstr] at i1
    generalize (s.getD k 0).toNat = y at i1 HD
    obtain ⟨b, f1⟩ : ∃ b, (((y : Int)) != 46) = b := ⟨_, rfl⟩
    obtain rfl : D = b := by
     rw [← HD.out, ← f1, decide_eq_true hlt, Bool.true_and, Bool.eq_iff_iff, decide_eq_true_eq, bne_iff_ne]
     omega
    clear HD
    go_wp2_with fail
    go_meet
    case rel => exact ⟨rfl, rfl⟩
   ·
    have ti : decide ((k : Int) < (n : Int)) = false := decide_eq_false (by omega)
    obtain rfl : D = false := by rw [← HD.out, decide_eq_false hlt]; rfl
    clear HD
    go_wp2_with fail
    go_meet
    case rel => exact ⟨rfl, rfl⟩
  case rest =>
   obtain ⟨rfl, hwc⟩ := hcut
   have hwc2 : wr = wc := hwc.symm
   subst hwc2
   cases D with
   | true =>
    have hd := HD.out
    simp only [Bool.and_eq_true, decide_eq_true_eq] at hd
    have hk2 := hd.1
    have HK2 : Hid (dotF s = k + 1 + dotF (s.drop (k + 1))) := by
     show _ = _
     have := dot_step (s := s) (k := k) (by rw [Hn.out]; exact hd.1)
     rw [if_neg hd.2] at this
     rw [HK.out, this]; omega
    clear hd HD HK hwc
    go_wp2_with fail
    go_roundg (n + 1 - (k + 1))
    case measure => rw [Hg.out]; omega
    case rel => exact ⟨k + 1, rfl, by omega, by go_num, HK2, rfl⟩
   | false =>
    have hdk : dotF s = k := by
     by_cases hlt : k < n
     ·
      have hd := HD.out
      rw [decide_eq_true hlt, Bool.true_and, decide_eq_false_iff_not] at hd
      have := dot_step (s := s) (k := k) (by rw [Hn.out]; exact hlt)
      rw [if_pos (by omega)] at this
      rw [HK.out, this]; rfl
     ·
      have : s.drop k = [] := List.drop_of_length_le (by rw [Hn.out]; omega)
      rw [HK.out, this]; rfl
    rw [hdk] at HO
    clear HD HK hwc Hg hdl hdk
    have hto := fun W => run_to_str Hn.out hk W
    have CO := Lib.hid (tOp_c (s.take k) wr)
    obtain ⟨ts, Hts⟩ := nm (kstr (s.take k))
    rw [Hts.out] at hto CO
    have hfr : k + 1 ≤ n → ∀ W, (Instr.slice 9 (.string (kstr s)) (some (.int .i64 ((k : Int) + 1))) none none).run Try.prog W = .ok (.string (kstr (s.drop (k + 1)))) W := fun q W => run_from_str Hn.out q W
    obtain ⟨str, Hstr⟩ := nm (kstr s)
    rw [Hstr.out] at hz hto hfr ⊢
    have HFR := Lib.hid hfr
    clear hfr
    cases hop : opF (s.take k) with
    | none =>
     rw [hop] at CO HO
     have HN : Hid (o = none) := HO.out
     have CA := Lib.hid (fun W => rArity_c 0 W)
     rw [show arF 0 = none from rfl] at CA
     simp only [Option.getD_none, Option.isSome_none] at CO CA
     clear hop HO HFR
     go_wp2_with fail
     refine CO.out.mono ?_
     rintro e w9 ⟨rfl, hu9⟩
     go_wp2_with fail
     refine (CA.out _).mono ?_
     rintro e w10 ⟨rfl, rfl⟩
     obtain ⟨w9, rfl⟩ : ∃ x : World, x = w10 := ⟨_, rfl⟩
     clear CO CA
     have b9 := HB.out.upd hu9 (fun f => f)
     have y0 := b9.cell 0
     have y1 := b9.cell 1
     have y2 := b9.cell 2
     have y3 := b9.cell 3
     have y4 := b9.cell 4
     have yf := b9.frozen
     have HB9 := Lib.hid b9
     clear b9
     go_wp2_with fail
     rw [set5_eq]
     have us := set5_upd w9 w.heap.size
     refine bodyPost_ret (results_cell_row_tmp rfl _ _ w.heap.size 30 _ (0, 0) _ rfl (set5_blk HB9.out _ _ _ _ _) Try.underlying30 rfl (by kernel_rfl)) rfl ?_
     refine ⟨.mk 0 0 0 0 [], false, x, rfl, rfl, (HR.out.non hu9).upd (us _ _ _ _ _) (fun j _ e => ?_), rfl, Keeps.refl, ((HUU.out.then_non hu9).trans (us _ _ _ _ _) (fun j hj e => by omega)).mono (fun _ _ f => f.elim), (fun q => by cases q), fun _ => HN.out⟩
     subst e
     have hv := H.out.v.lt (k := w.heap.size)
     have hm := H.out.m.lt (k := w.heap.size)
     exact ⟨hpw, fun q => Nat.lt_irrefl _ (hv q), fun q => Nat.lt_irrefl _ (hm q)⟩
    | some op =>
     rw [hop] at CO HO
     have HO2 : Hid (o = if (arF op).isNone ∨ immOp op ≠ decide (k < n) then none
       else if immOp op = false then some (.mk 0 op 0 0 [], psOf x)
       else match decF (s.drop (k + 1)) with
        | some n => some (.mk 0 op n 0 [], psOf x)
        | none => match s.drop (k + 1) with
         | [c] => if isLw c = true ∧ 0 < (lookF x.ms c x.left).1 then some (.mk 0 op 0 (lookF x.ms c x.left).1 [], { psOf x with ms := (lookF x.ms c x.left).2 }) else none
         | _ => none) := HO.out
     have HO := HO2
     clear HO2
     have CA := Lib.hid (fun W => rArity_c op W)
     have CI := Lib.hid (fun W => rHasImm_c op W)
     simp only [Option.getD_some, Option.isSome_some] at CO
     clear hop
     obtain ⟨oi, Hoi⟩ := nm ((op : Nat) : Int)
     rw [Hoi.out] at CO CA CI HO
     cases har : arF oi with
     | none =>
      rw [har] at CA HO
      have HN : Hid (o = none) := by show _ = _; rw [HO.out, if_pos (.inl rfl)]
      simp only [Option.getD_none, Option.isSome_none] at CA
      clear har HO HFR CI
      go_wp2_with fail
      refine CO.out.mono ?_
      rintro e w9 ⟨rfl, hu9⟩
      go_wp2_with fail
      refine (CA.out _).mono ?_
      rintro e w10 ⟨rfl, rfl⟩
      obtain ⟨w9, rfl⟩ : ∃ x : World, x = w10 := ⟨_, rfl⟩
      clear CO CA
      have b9 := HB.out.upd hu9 (fun f => f)
      have y0 := b9.cell 0
      have y1 := b9.cell 1
      have y2 := b9.cell 2
      have y3 := b9.cell 3
      have y4 := b9.cell 4
      have yf := b9.frozen
      have HB9 := Lib.hid b9
      clear b9
      go_wp2_with fail
      rw [set5_eq]
      have us := set5_upd w9 w.heap.size
      refine bodyPost_ret (results_cell_row_tmp rfl _ _ w.heap.size 30 _ (0, 0) _ rfl (set5_blk HB9.out _ _ _ _ _) Try.underlying30 rfl (by kernel_rfl)) rfl ?_
      refine ⟨.mk 0 0 0 0 [], false, x, rfl, rfl, (HR.out.non hu9).upd (us _ _ _ _ _) (fun j _ e => ?_), rfl, Keeps.refl, ((HUU.out.then_non hu9).trans (us _ _ _ _ _) (fun j hj e => by omega)).mono (fun _ _ f => f.elim), (fun q => by cases q), fun _ => HN.out⟩
      subst e
      have hv := H.out.v.lt (k := w.heap.size)
      have hm := H.out.m.lt (k := w.heap.size)
      exact ⟨hpw, fun q => Nat.lt_irrefl _ (hv q), fun q => Nat.lt_irrefl _ (hm q)⟩
     | some ar =>
      rw [har] at CA HO
      simp only [Option.getD_some, Option.isSome_some] at CA
      obtain ⟨im, Him⟩ := nm (immOp oi)
      rw [Him.out] at CI HO
      obtain ⟨ari, Hari⟩ := nm ((ar : Nat) : Int)
      rw [Hari.out] at CA
      by_cases hlt : k < n
      ·
       have fl : decide ((k : Int) < (n : Int)) = true := decide_eq_true (by omega)
       cases im with
       | false =>
        have HN : Hid (o = none) := by show _ = _; rw [HO.out, if_pos (.inr (by simp [hlt]))]
        clear har HO HFR
        go_wp2_with fail
        refine CO.out.mono ?_
        rintro e w9 ⟨rfl, hu9⟩
        go_wp2_with fail
        refine (CA.out _).mono ?_
        rintro e w10 ⟨rfl, rfl⟩
        go_wp2_with fail
        refine (CI.out _).mono ?_
        rintro e w11 ⟨rfl, rfl⟩
        clear CO CA
        obtain ⟨w9, rfl⟩ : ∃ x : World, x = w11 := ⟨_, rfl⟩
        clear CI
        have b9 := HB.out.upd hu9 (fun f => f)
        have y0 := b9.cell 0
        have y1 := b9.cell 1
        have y2 := b9.cell 2
        have y3 := b9.cell 3
        have y4 := b9.cell 4
        have yf := b9.frozen
        have HB9 := Lib.hid b9
        clear b9
        go_wp2_with fail
        rw [set5_eq]
        have us := set5_upd w9 w.heap.size
        refine bodyPost_ret (results_cell_row_tmp rfl _ _ w.heap.size 30 _ (0, 0) _ rfl (set5_blk HB9.out _ _ _ _ _) Try.underlying30 rfl (by kernel_rfl)) rfl ?_
        refine ⟨.mk 0 0 0 0 [], false, x, rfl, rfl, (HR.out.non hu9).upd (us _ _ _ _ _) (fun j _ e => ?_), rfl, Keeps.refl, ((HUU.out.then_non hu9).trans (us _ _ _ _ _) (fun j hj e => by omega)).mono (fun _ _ f => f.elim), (fun q => by cases q), fun _ => HN.out⟩
        subst e
        have hv := H.out.v.lt (k := w.heap.size)
        have hm := H.out.m.lt (k := w.heap.size)
        exact ⟨hpw, fun q => Nat.lt_irrefl _ (hv q), fun q => Nat.lt_irrefl _ (hm q)⟩
       | true =>
        have HO3 : Hid (o = match decF (s.drop (k + 1)) with
          | some n => some (.mk 0 oi n 0 [], psOf x)
          | none => match s.drop (k + 1) with
           | [c] => if isLw c = true ∧ 0 < (lookF x.ms c x.left).1 then some (.mk 0 oi 0 (lookF x.ms c x.left).1 [], { psOf x with ms := (lookF x.ms c x.left).2 }) else none
           | _ => none) := by
         show _ = _
         rw [HO.out, if_neg (by simp [hlt]), if_neg (by decide)]
        have hfr := HFR.out (by omega)
        clear har HO HFR
        obtain ⟨t, Ht⟩ := nm (s.drop (k + 1))
        rw [Ht.out] at HO3 hfr
        have htl : t.length ≤ 1000000 := by rw [← Ht.out, List.length_drop]; have := Hn.out; omega
        have CW := Lib.hid (fun W => wParse_c t W htl)
        obtain ⟨tq, Htq⟩ := nm (kstr t)
        rw [Htq.out] at hfr CW
        have htz : tq.size = t.length := by rw [← Htq.out, kstr_size]
        cases hd : decF t with
        | some nn =>
         rw [hd] at CW HO3
         simp only [Option.getD_some, Option.isSome_some] at CW
         have HS : Hid (o = some (.mk 0 oi nn 0 [], psOf x)) := HO3.out
         clear hd HO3 htz
         go_wp2_with fail
         refine CO.out.mono ?_
         rintro e w9 ⟨rfl, hu9⟩
         go_wp2_with fail
         refine (CA.out _).mono ?_
         rintro e w10 ⟨rfl, rfl⟩
         go_wp2_with fail
         refine (CI.out _).mono ?_
         rintro e w11 ⟨rfl, rfl⟩
         clear CO CA
         go_wp2_with fail
         refine (CI.out _).mono ?_
         rintro e w12 ⟨rfl, rfl⟩
         go_wp2_with fail
         refine (CW.out _).mono ?_
         rintro e w13 ⟨rfl, rfl⟩
         clear CI CW
         obtain ⟨w9, rfl⟩ : ∃ x : World, x = w13 := ⟨_, rfl⟩
         have b9 := HB.out.upd hu9 (fun f => f)
         have y0 := b9.cell 0
         have y1 := b9.cell 1
         have y2 := b9.cell 2
         have y3 := b9.cell 3
         have y4 := b9.cell 4
         have yf := b9.frozen
         have HB9 := Lib.hid b9
         clear b9
         go_wp2_with fail
         rw [set5_eq]
         have us := set5_upd w9 w.heap.size
         refine bodyPost_ret (results_cell_row_tmp rfl _ _ w.heap.size 30 _ (0, 0) _ rfl (set5_blk HB9.out _ _ _ _ _) Try.underlying30 rfl (by kernel_rfl)) rfl ?_
         refine ⟨_, true, x, rfl, rfl, (HR.out.non hu9).upd (us _ _ _ _ _) (fun j _ e => ?_), rfl, Keeps.refl, ((HUU.out.then_non hu9).trans (us _ _ _ _ _) (fun j hj e => by omega)).mono (fun _ _ f => f.elim), (fun _ => ⟨psOf x, HS.out, rfl, rfl, rfl⟩), (fun q => by cases q)⟩
         subst e
         have hv := H.out.v.lt (k := w.heap.size)
         have hm := H.out.m.lt (k := w.heap.size)
         exact ⟨hpw, fun q => Nat.lt_irrefl _ (hv q), fun q => Nat.lt_irrefl _ (hm q)⟩
        | none =>
         rw [hd] at CW HO3
         simp only [Option.getD_none, Option.isSome_none] at CW
         clear hd
         by_cases ht1 : t.length = 1
         ·
          obtain ⟨cc, rfl⟩ : ∃ cc, t = [cc] := List.length_eq_one_iff.1 ht1
          rw [ht1] at htz
          have i5 := fun W => run_at_str htz (show 0 < 1 by omega) W
          rw [← Htq.out, kx_kstr, show ([cc] : Bs).getD 0 0 = cc from rfl, show ((0 : Nat) : Int) = 0 from rfl, Htq.out] at i5
          have HO4 : Hid (o = if isLw cc = true ∧ 0 < (lookF x.ms cc x.left).1 then some (.mk 0 oi 0 (lookF x.ms cc x.left).1 [], { psOf x with ms := (lookF x.ms cc x.left).2 }) else none) := HO3.out
          have CL := Lib.hid (fun W => rIsLower_c cc W)
          obtain ⟨lw, Hlw⟩ := nm (isLw cc)
          rw [Hlw.out] at CL HO4
          clear HO3 ht1
          cases lw with
          | false =>
           have HN : Hid (o = none) := by show _ = _; rw [HO4.out, if_neg (fun q => by cases q.1)]
           clear HO4
           go_wp2_with fail
           refine CO.out.mono ?_
           rintro e w9 ⟨rfl, hu9⟩
           go_wp2_with fail
           refine (CA.out _).mono ?_
           rintro e w10 ⟨rfl, rfl⟩
           go_wp2_with fail
           refine (CI.out _).mono ?_
           rintro e w11 ⟨rfl, rfl⟩
           clear CO CA
           go_wp2_with fail
           refine (CI.out _).mono ?_
           rintro e w12 ⟨rfl, rfl⟩
           go_wp2_with fail
           refine (CW.out _).mono ?_
           rintro e w13 ⟨rfl, rfl⟩
           clear CI CW
           go_wp2_with fail
           refine (CL.out _).mono ?_
           rintro e w14 ⟨rfl, rfl⟩
           obtain ⟨w9, rfl⟩ : ∃ x : World, x = w14 := ⟨_, rfl⟩
           clear CL
           have b9 := HB.out.upd hu9 (fun f => f)
           have y0 := b9.cell 0
           have y1 := b9.cell 1
           have y2 := b9.cell 2
           have y3 := b9.cell 3
           have y4 := b9.cell 4
           have yf := b9.frozen
           have HB9 := Lib.hid b9
           clear b9
           go_wp2_with fail
           rw [set5_eq]
           have us := set5_upd w9 w.heap.size
           refine bodyPost_ret (results_cell_row_tmp rfl _ _ w.heap.size 30 _ (0, 0) _ rfl (set5_blk HB9.out _ _ _ _ _) Try.underlying30 rfl (by kernel_rfl)) rfl ?_
           refine ⟨.mk 0 0 0 0 [], false, x, rfl, rfl, (HR.out.non hu9).upd (us _ _ _ _ _) (fun j _ e => ?_), rfl, Keeps.refl, ((HUU.out.then_non hu9).trans (us _ _ _ _ _) (fun j hj e => by omega)).mono (fun _ _ f => f.elim), (fun q => by cases q), fun _ => HN.out⟩
           subst e
           have hv := H.out.v.lt (k := w.heap.size)
           have hm := H.out.m.lt (k := w.heap.size)
           exact ⟨hpw, fun q => Nat.lt_irrefl _ (hv q), fun q => Nat.lt_irrefl _ (hm q)⟩
          | true =>
           go_wp2_with fail
           refine CO.out.mono ?_
           rintro e w9 ⟨rfl, hu9⟩
           go_wp2_with fail
           refine (CA.out _).mono ?_
           rintro e w10 ⟨rfl, rfl⟩
           go_wp2_with fail
           refine (CI.out _).mono ?_
           rintro e w11 ⟨rfl, rfl⟩
           clear CO CA
           go_wp2_with fail
           refine (CI.out _).mono ?_
           rintro e w12 ⟨rfl, rfl⟩
           go_wp2_with fail
           refine (CW.out _).mono ?_
           rintro e w13 ⟨rfl, rfl⟩
           clear CI CW
           go_wp2_with fail
           refine (CL.out _).mono ?_
           rintro e w14 ⟨rfl, rfl⟩
           obtain ⟨wA, rfl⟩ : ∃ x : World, x = w14 := ⟨_, rfl⟩
           clear CL
           go_upto_region 16 with fail
           obtain ⟨wD, HwD⟩ := nm wA.drew
           have uD : Upd Non wA wD := by rw [← HwD.out]; exact Upd.refl.drew
           have vD : Upd Non w wD := (HUU.out.then_non hu9).then_non uD
           have hRD := H.out.non vD
           have d6 := hRD.cells.2.2.2.2.2.2
           have CK := Lib.hid (rLookM_c hRD hn cc x.left)
           have sD := vD.size
           have sD2 : w.heap.size < wD.heap.size := by
            have := HB.out.lt
            have := hu9.size
            have := uD.size
            omega
           clear hRD
           refine wp_region_held_drew (S := fun w' => w'.cell? ⟨p, 6, none⟩ = some (.bool x.left)) (by kernel_rfl) (by rw [HwD.out]; exact d6) (fun hHeld => ?_)
           rw [HwD.out] at hHeld ⊢
           refine wpT 0 ?_
           try simp only [put_y]
           try simp only [Act.put]
           try simp only [put_z]
           refine wpT 1 ?_
           try simp only [put_y]
           try simp only [Act.put]
           try simp only [put_z]
           refine wpT 2 ?_
           try simp only [put_y]
           try simp only [Act.put]
           try simp only [put_z]
           refine wpT 3 ?_
           try simp only [put_y]
           try simp only [Act.put]
           try simp only [put_z]
           refine wpT 4 ?_
           try simp only [put_y]
           try simp only [Act.put]
           try simp only [put_z]
           refine wpT 5 ?_
           try simp only [put_y]
           try simp only [Act.put]
           try simp only [put_z]
           refine wpT 6 ?_
           try simp only [put_y]
           try simp only [Act.put]
           try simp only [put_z]
           refine wpT 7 ?_
           try simp only [put_y]
           try simp only [Act.put]
           try simp only [put_z]
           refine wpT 8 ?_
           try simp only [put_y]
           try simp only [Act.put]
           try simp only [put_z]
           refine wpAnyH_ready (rs := [9]) (by kernel_rfl) (by simp) ?_
           refine AllReadyH.cons rfl (fun K hK => ?_) AllReadyH.nil
           go_simp
           refine CK.out.mono ?_
           rintro e w2 ⟨rfl, y, hy, hy1, hy2, hky, hu2⟩
           go_wp2_with fail
           have e6 := hy.cells.2.2.2.2.2.2
           rw [hky.left] at e6
           refine hK.out _ _ ?_ (fun hHeld => ?_)
           ·
            exact e6
           clear hK K
           try simp only [put_y]
           try simp only [Act.put]
           try simp only [put_z]
           refine wpT 10 ?_
           try simp only [put_y]
           try simp only [Act.put]
           try simp only [put_z]
           refine wpAnyH_done (by kernel_rfl) ?_ _
           obtain ⟨kk, Hkk⟩ := nm (lookF x.ms cc x.left)
           rw [Hkk.out] at hy1 HO4 ⊢
           have hown : ∀ j, y.own p j → j ≠ w.heap.size := fun j hj e => by
            subst e
            rcases hky.own _ hj with q | q
            ·
             have := H.out.lt q; omega
            ·
             omega
           have HY := Lib.hid hy
           have HU2 : Hid (Upd (x.own p) w w2) := (vD.mono (fun _ _ f => f.elim)).trans hu2 (fun _ _ q => q)
           have HKY : Hid (Keeps w p x y) := ⟨hky.i, hky.why, hky.ea, hky.left, fun j hj => (hky.own j hj).imp_right (fun q => by omega)⟩
           have HY1 := Lib.hid hy1
           have HY2 := Lib.hid hy2
           have b9 : Blk w2 w.heap.size 30 #[.int .i64 0, .int .i64 0, .int .i64 0, .int .i64 0, .slice none 0 0] := ((HB.out.upd hu9 (fun f => f)).upd uD (fun f => f)).upd hu2 (fun q => by have := H.out.lt q; omega)
           have y0 := b9.cell 0
           have y1 := b9.cell 1
           have y2 := b9.cell 2
           have y3 := b9.cell 3
           have y4 := b9.cell 4
           have yf := b9.frozen
           have HB9 := Lib.hid b9
           clear b9 hHeld CK hy hy1 hy2 hky hu2 hu9 uD vD HwD d6 e6
           obtain ⟨kn, Hkn⟩ := nm kk.1
           rw [Hkn.out] at HO4 ⊢
           by_cases hpos : 0 < kn
           ·
            have fp : decide ((0 : Int) < (kn : Int)) = true := decide_eq_true (by omega)
            have HS : Hid (o = some (.mk 0 oi 0 kn [], { psOf x with ms := kk.2 })) := by show _ = _; rw [HO4.out, if_pos ⟨by trivial, hpos⟩]
            clear HO4
            go_wp2_with fail
            rw [set5_eq]
            have us := set5_upd w2 w.heap.size
            refine bodyPost_ret (results_cell_row_tmp rfl _ _ w.heap.size 30 _ (0, 0) _ rfl (set5_blk HB9.out _ _ _ _ _) Try.underlying30 rfl (by kernel_rfl)) rfl ?_
            refine ⟨_, true, y, rfl, rfl, HY.out.upd (us _ _ _ _ _) (fun j _ e => by subst e; exact ⟨hpw, fun q => hown _ (.inr (.inl q)) rfl, fun q => hown _ (.inr (.inr q)) rfl⟩), HY2.out, HKY.out, HU2.out.trans (us _ _ _ _ _) (fun j hj e => by omega), (fun _ => ⟨_, HS.out, rfl, rfl, HY1.out⟩), (fun q => by cases q)⟩
           ·
            have fp : decide ((0 : Int) < (kn : Int)) = false := decide_eq_false (by omega)
            have HN : Hid (o = none) := by show _ = _; rw [HO4.out, if_neg (fun q => hpos q.2)]
            clear HO4
            go_wp2_with fail
            rw [set5_eq]
            have us := set5_upd w2 w.heap.size
            refine bodyPost_ret (results_cell_row_tmp rfl _ _ w.heap.size 30 _ (0, 0) _ rfl (set5_blk HB9.out _ _ _ _ _) Try.underlying30 rfl (by kernel_rfl)) rfl ?_
            refine ⟨.mk 0 oi 0 kn [], false, y, rfl, rfl, HY.out.upd (us _ _ _ _ _) (fun j _ e => by subst e; exact ⟨hpw, fun q => hown _ (.inr (.inl q)) rfl, fun q => hown _ (.inr (.inr q)) rfl⟩), HY2.out, HKY.out, HU2.out.trans (us _ _ _ _ _) (fun j hj e => by omega), (fun q => by cases q), fun _ => HN.out⟩
         ·
          have HN : Hid (o = none) := by
           show _ = _
           rw [HO3.out]
           match t, ht1 with
           | [], _ => rfl
           | _ :: _ :: _, _ => rfl
          obtain ⟨tm, Htm⟩ := nm t.length
          rw [Htm.out] at htz ht1
          have ft : (((tm : Nat) : Int) != 1) = true := by simp; omega
          clear HO3
          go_wp2_with fail
          refine CO.out.mono ?_
          rintro e w9 ⟨rfl, hu9⟩
          go_wp2_with fail
          refine (CA.out _).mono ?_
          rintro e w10 ⟨rfl, rfl⟩
          go_wp2_with fail
          refine (CI.out _).mono ?_
          rintro e w11 ⟨rfl, rfl⟩
          clear CO CA
          go_wp2_with fail
          refine (CI.out _).mono ?_
          rintro e w12 ⟨rfl, rfl⟩
          go_wp2_with fail
          refine (CW.out _).mono ?_
          rintro e w13 ⟨rfl, rfl⟩
          clear CI CW
          obtain ⟨w9, rfl⟩ : ∃ x : World, x = w13 := ⟨_, rfl⟩
          have b9 := HB.out.upd hu9 (fun f => f)
          have y0 := b9.cell 0
          have y1 := b9.cell 1
          have y2 := b9.cell 2
          have y3 := b9.cell 3
          have y4 := b9.cell 4
          have yf := b9.frozen
          have HB9 := Lib.hid b9
          clear b9
          go_wp2_with fail
          rw [set5_eq]
          have us := set5_upd w9 w.heap.size
          refine bodyPost_ret (results_cell_row_tmp rfl _ _ w.heap.size 30 _ (0, 0) _ rfl (set5_blk HB9.out _ _ _ _ _) Try.underlying30 rfl (by kernel_rfl)) rfl ?_
          refine ⟨.mk 0 0 0 0 [], false, x, rfl, rfl, (HR.out.non hu9).upd (us _ _ _ _ _) (fun j _ e => ?_), rfl, Keeps.refl, ((HUU.out.then_non hu9).trans (us _ _ _ _ _) (fun j hj e => by omega)).mono (fun _ _ f => f.elim), (fun q => by cases q), fun _ => HN.out⟩
          subst e
          have hv := H.out.v.lt (k := w.heap.size)
          have hm := H.out.m.lt (k := w.heap.size)
          exact ⟨hpw, fun q => Nat.lt_irrefl _ (hv q), fun q => Nat.lt_irrefl _ (hm q)⟩
      ·
       have fl : decide ((k : Int) < (n : Int)) = false := decide_eq_false (by omega)
       cases im with
       | true =>
        have HN : Hid (o = none) := by show _ = _; rw [HO.out, if_pos (.inr (by simp [hlt]))]
        clear har HO HFR
        go_wp2_with fail
        refine CO.out.mono ?_
        rintro e w9 ⟨rfl, hu9⟩
        go_wp2_with fail
        refine (CA.out _).mono ?_
        rintro e w10 ⟨rfl, rfl⟩
        go_wp2_with fail
        refine (CI.out _).mono ?_
        rintro e w11 ⟨rfl, rfl⟩
        clear CO CA
        obtain ⟨w9, rfl⟩ : ∃ x : World, x = w11 := ⟨_, rfl⟩
        clear CI
        have b9 := HB.out.upd hu9 (fun f => f)
        have y0 := b9.cell 0
        have y1 := b9.cell 1
        have y2 := b9.cell 2
        have y3 := b9.cell 3
        have y4 := b9.cell 4
        have yf := b9.frozen
        have HB9 := Lib.hid b9
        clear b9
        go_wp2_with fail
        rw [set5_eq]
        have us := set5_upd w9 w.heap.size
        refine bodyPost_ret (results_cell_row_tmp rfl _ _ w.heap.size 30 _ (0, 0) _ rfl (set5_blk HB9.out _ _ _ _ _) Try.underlying30 rfl (by kernel_rfl)) rfl ?_
        refine ⟨.mk 0 0 0 0 [], false, x, rfl, rfl, (HR.out.non hu9).upd (us _ _ _ _ _) (fun j _ e => ?_), rfl, Keeps.refl, ((HUU.out.then_non hu9).trans (us _ _ _ _ _) (fun j hj e => by omega)).mono (fun _ _ f => f.elim), (fun q => by cases q), fun _ => HN.out⟩
        subst e
        have hv := H.out.v.lt (k := w.heap.size)
        have hm := H.out.m.lt (k := w.heap.size)
        exact ⟨hpw, fun q => Nat.lt_irrefl _ (hv q), fun q => Nat.lt_irrefl _ (hm q)⟩
       | false =>
        have HS : Hid (o = some (.mk 0 oi 0 0 [], psOf x)) := by show _ = _; rw [HO.out, if_neg (by simp [hlt]), if_pos rfl]
        clear har HO HFR
        go_wp2_with fail
        refine CO.out.mono ?_
        rintro e w9 ⟨rfl, hu9⟩
        go_wp2_with fail
        refine (CA.out _).mono ?_
        rintro e w10 ⟨rfl, rfl⟩
        go_wp2_with fail
        refine (CI.out _).mono ?_
        rintro e w11 ⟨rfl, rfl⟩
        clear CO CA
        go_wp2_with fail
        refine (CI.out _).mono ?_
        rintro e w12 ⟨rfl, rfl⟩
        obtain ⟨w9, rfl⟩ : ∃ x : World, x = w12 := ⟨_, rfl⟩
        clear CI
        have b9 := HB.out.upd hu9 (fun f => f)
        have y0 := b9.cell 0
        have y1 := b9.cell 1
        have y2 := b9.cell 2
        have y3 := b9.cell 3
        have y4 := b9.cell 4
        have yf := b9.frozen
        have HB9 := Lib.hid b9
        clear b9
        go_wp2_with fail
        rw [set5_eq]
        have us := set5_upd w9 w.heap.size
        refine bodyPost_ret (results_cell_row_tmp rfl _ _ w.heap.size 30 _ (0, 0) _ rfl (set5_blk HB9.out _ _ _ _ _) Try.underlying30 rfl (by kernel_rfl)) rfl ?_
        refine ⟨_, true, x, rfl, rfl, (HR.out.non hu9).upd (us _ _ _ _ _) (fun j _ e => ?_), rfl, Keeps.refl, ((HUU.out.then_non hu9).trans (us _ _ _ _ _) (fun j hj e => by omega)).mono (fun _ _ f => f.elim), (fun _ => ⟨psOf x, HS.out, rfl, rfl, rfl⟩), (fun q => by cases q)⟩
        subst e
        have hv := H.out.v.lt (k := w.heap.size)
        have hm := H.out.m.lt (k := w.heap.size)
        exact ⟨hpw, fun q => Nat.lt_irrefl _ (hv q), fun q => Nat.lt_irrefl _ (hm q)⟩
end Go.Proofs.Ytblkgjdhaibhgaa
namespace Go.Proofs.Ytblkgjdhaibhgaa
open Go.RowKit
theorem lookF_zero {l : Bs} {c : UInt8} {left : Bool} (h : (lookF l c left).1 = 0) : (lookF l c left).2 = l := by
 unfold lookF at h ⊢
 split at h
 ·
  simp at h
 ·
  split at h
  ·
   simp at h
  ·
   rename_i hl
   rw [if_neg hl]
theorem varF_zero {s : Bs} {c : Nat} {l : Bs} {left : Bool} (h : (varF s c l left).1 = 0) : (varF s c l left).2 = l := by
 unfold varF at h ⊢
 split at h
 ·
  split at h
  ·
   rename_i q
   rw [if_pos q]
   exact lookF_zero h
  ·
   rename_i q
   rw [if_neg q]
 ·
  rfl
theorem lookF_len (l : Bs) (c : UInt8) (left : Bool) : (lookF l c left).2.length ≤ l.length + 1 := by
 unfold lookF
 split
 ·
  simp
 ·
  split <;> simp
theorem varF_len (s : Bs) (c : Nat) (l : Bs) (left : Bool) : (varF s c l left).2.length ≤ l.length + 1 := by
 unfold varF
 split
 ·
  split
  ·
   exact lookF_len _ _ _
  ·
   simp
 ·
  simp
def p0 (q : Pt) : Array Value := #[.int .i64 q.v, .int .i64 q.op, .int .i64 q.imm, .int .i64 q.iv, .slice none 0 0]
def ClsP (w : World) (p g : Nat) (A : Option Addr) (c : Nat) (L : List Tok) (x : St) (o : Option (Pt × PS)) (e : Ending) (w' : World) : Prop :=
 ∃ (q : Pt) (b : Bool) (y : St), e = .returned (.bool b) ∧ q.kids = [] ∧ Blk w' g 30 (p0 q) ∧ RdS w' p A c L y ∧ Keeps w p x y ∧ Upd (fun k => x.own p k ∨ k = g) w w' ∧ (b = true → ∃ ps, o = some (q, ps) ∧ ps.i = x.i ∧ y.vs = ps.vs ∧ y.ms = ps.ms) ∧ (b = false → o = none)
set_option maxRecDepth 100000 in
set_option maxHeartbeats 4000000 in
theorem rApplication1_c {w : World} {p g bx : Nat} {A : Option Addr} {c : Nat} {L : List Tok} {x : St} (h : RdS w p A c L x) (hn : x.ms.length ≤ 100000) (s : Bs) (hs : s.length ≤ 1000000) (q0 : Pt) (hg : Blk w g 30 (p0 q0)) (hx : Blk w bx 53 #[.pointer (some ⟨p, 0, none⟩)]) (hgo : ¬ x.own p g) (hpg : p < g) :
  Calls Try.prog 78 #[.string (kstr s), .pointer (some ⟨bx, 0, none⟩), .pointer (some ⟨g, 0, none⟩)] w (ClsP w p g A c L x (operF x.left s (psOf x))) := by
 have C := Lib.hid (rOperation_c h hn s hs)
 obtain ⟨o, Ho⟩ := nm (operF x.left s (psOf x))
 rw [Ho.out] at C ⊢
 obtain ⟨str, Hstr⟩ := nm (kstr s)
 rw [Hstr.out] at C ⊢
 have d0 := hx.cell 0
 have H := Lib.hid h
 have HG := Lib.hid hg
 have hgw := hg.lt
 clear h hg
 go_enter Try.func78, Try.ntmps78
 go_wp2_with fail
 refine C.out.mono ?_
 rintro e w1 ⟨q, b, y, rfl, hqk, hy, hvs, hk, hu, h1, h2⟩
 obtain ⟨v, op, im, iv, ks⟩ := q
 obtain rfl : ks = [] := hqk
 have b1 := HG.out.upd hu hgo
 obtain ⟨W2, HW2⟩ := nm (w1.alloc (.cells #[.int .i64 v, .int .i64 op, .int .i64 im, .int .i64 iv, .slice none 0 0] 30))
 have u2 : Upd Non w1 W2 := by rw [← HW2.out]; exact Upd.refl.alloc _
 have b2 : Blk W2 w1.heap.size 30 #[.int .i64 v, .int .i64 op, .int .i64 im, .int .i64 iv, .slice none 0 0] := by rw [← HW2.out]; exact Blk.new _ _ _
 have b1 := b1.upd u2 (fun f => f)
 unfold p0 at b1
 have y0 := b1.cell 0
 have y1 := b1.cell 1
 have y2 := b1.cell 2
 have y3 := b1.cell 3
 have y4 := b1.cell 4
 have yf := b1.frozen
 have z0 := b2.cell 0
 have z1 := b2.cell 1
 have z2 := b2.cell 2
 have z3 := b2.cell 3
 have z4 := b2.cell 4
 have HB1 := Lib.hid b1
 have HY := Lib.hid hy
 have HU := Lib.hid hu
 have HU2 := Lib.hid u2
 have HK := Lib.hid hk
 have HVS := Lib.hid hvs
 have H1 := Lib.hid h1
 have H2 := Lib.hid h2
 clear C b1 b2 hy hu u2 hk hvs h1 h2 HG
 rw [show pv (.mk v op im iv []) none 0 = .agg #[.int .i64 v, .int .i64 op, .int .i64 im, .int .i64 iv, .slice none 0 0] from rfl]
 go_upto_region 2 with fail
 rw [HW2.out]
 go_wp2_with fail
 go_ret
 rw [set5_eq]
 have us := set5_upd W2 g (.int .i64 v) (.int .i64 op) (.int .i64 im) (.int .i64 iv) (.slice none 0 0)
 refine ⟨.mk v op im iv [], b, y, rfl, rfl, set5_blk HB1.out _ _ _ _ _, (HY.out.non HU2.out).upd us (fun k _ e => ?_), HK.out, ((HU.out.mono (fun _ _ q => .inl q)).then_non HU2.out).trans us (fun _ _ q => .inr q), (fun q => ?_), H2.out⟩
 ·
  subst e
  have ho : ∀ j, y.own p j → j ≠ k := fun j hj e => by
   subst e
   rcases HK.out.own _ hj with r | r
   ·
    exact hgo r
   ·
    omega
  exact ⟨hpg, fun r => ho _ (.inr (.inl r)) rfl, fun r => ho _ (.inr (.inr r)) rfl⟩
 ·
  obtain ⟨ps, g1, g2, g3, g4⟩ := H1.out q
  exact ⟨ps, g1, g2, by rw [g3]; exact HVS.out, g4⟩
theorem Keeps.trans {w w' : World} {p : Nat} {x y z : St} (h : Keeps w p x y) (k : Keeps w' p y z) (hw : w.heap.size ≤ w'.heap.size) : Keeps w p x z :=
 ⟨k.i.trans h.i, k.why.trans h.why, k.ea.trans h.ea, k.left.trans h.left, fun j hj => by
  rcases k.own j hj with q | q
  ·
   exact h.own j q
  ·
   exact .inr (Nat.le_trans hw q)⟩
set_option maxRecDepth 100000 in
set_option maxHeartbeats 4000000 in
theorem rTerm1_c {w : World} {p g bx : Nat} {A : Option Addr} {c : Nat} {L : List Tok} {x : St} (h : RdS w p A c L x) (hm : x.ms.length ≤ 100000) (hv : x.vs.length ≤ 100000) (s : Bs) (hs : s.length ≤ 1000000) (q0 : Pt) (hg : Blk w g 30 (p0 q0)) (hx : Blk w bx 53 #[.pointer (some ⟨p, 0, none⟩)]) (hgo : ¬ x.own p g) (hxo : ¬ x.own p bx) (hpg : p < g) :
  Calls Try.prog 64 #[.string (kstr s), .pointer (some ⟨g, 0, none⟩), .pointer (some ⟨bx, 0, none⟩)] w (ClsP w p g A c L x (atomF x.left s (psOf x))) := by
 have HO : Hid (atomF x.left s (psOf x) = match decF s with
  | some n => some (.mk 0 1 n 0 [], psOf x)
  | none =>
   if 0 < (varF s 63 x.vs x.left).1 then some (.mk (varF s 63 x.vs x.left).1 0 0 0 [], { psOf x with vs := (varF s 63 x.vs x.left).2 })
   else if 0 < (varF s 36 x.ms x.left).1 then some (.mk 0 1 0 (varF s 36 x.ms x.left).1 [], { psOf x with ms := (varF s 36 x.ms x.left).2 })
   else none) := rfl
 obtain ⟨o, Ho⟩ := nm (atomF x.left s (psOf x))
 rw [Ho.out] at HO ⊢
 have CW := Lib.hid (wParse_c s w hs)
 have CV := Lib.hid (fun w' (y : St) (hy : RdS w' p A c L y) (hn : y.vs.length ≤ 100000) => rVarV_c hy hn s 63 hs)
 have CM := Lib.hid (fun w' (y : St) (hy : RdS w' p A c L y) (hn : y.ms.length ≤ 100000) => rVarM_c hy hn s 36 hs)
 rw [show ((63 : UInt8).toNat : Int) = 63 from rfl, show (63 : UInt8).toNat = 63 from rfl] at CV
 rw [show ((36 : UInt8).toNat : Int) = 36 from rfl, show (36 : UInt8).toNat = 36 from rfl] at CM
 obtain ⟨str, Hstr⟩ := nm (kstr s)
 rw [Hstr.out] at CW CV CM ⊢
 have H := Lib.hid h
 have HG := Lib.hid hg
 have HX := Lib.hid hx
 have hgw := hg.lt
 have HU0 : Hid (Upd (fun k => x.own p k ∨ k = g) w w) := Upd.refl
 unfold p0 at hg
 cases hd : decF s with
 | some n =>
  rw [hd] at CW HO
  simp only [Option.getD_some, Option.isSome_some] at CW
  have HS : Hid (o = some (.mk 0 1 n 0 [], psOf x)) := HO.out
  have y0 := hg.cell 0
  have y1 := hg.cell 1
  have y2 := hg.cell 2
  have y3 := hg.cell 3
  have y4 := hg.cell 4
  have yf := hg.frozen
  have HGB := Lib.hid hg
  clear hd HO CV CM h hg hx
  go_enter Try.func64, Try.ntmps64
  go_wp2_with fail
  refine CW.out.mono ?_
  rintro e w1 ⟨rfl, rfl⟩
  go_wp2_with fail
  go_ret
  rw [set5_eq]
  have us := set5_upd w1 g (.int .i64 0) (.int .i64 1) (.int .i64 n) (.int .i64 0) (.slice none 0 0)
  refine ⟨.mk 0 1 n 0 [], true, x, rfl, rfl, set5_blk HGB.out _ _ _ _ _, H.out.upd us (fun k _ e => by subst e; exact ⟨hpg, fun r => hgo (.inr (.inl r)), fun r => hgo (.inr (.inr r))⟩), Keeps.refl, us.mono (fun _ _ q => .inr q), (fun _ => ⟨psOf x, HS.out, rfl, rfl, rfl⟩), (fun q => by cases q)⟩
 | none =>
  rw [hd] at CW HO
  simp only [Option.getD_none, Option.isSome_none] at CW
  have HO2 : Hid (o = if 0 < (varF s 63 x.vs x.left).1 then some (.mk (varF s 63 x.vs x.left).1 0 0 0 [], { psOf x with vs := (varF s 63 x.vs x.left).2 })
   else if 0 < (varF s 36 x.ms x.left).1 then some (.mk 0 1 0 (varF s 36 x.ms x.left).1 [], { psOf x with ms := (varF s 36 x.ms x.left).2 })
   else none) := HO.out
  clear hd HO h hg
  go_enter Try.func64, Try.ntmps64
  go_wp2_with fail
  refine CW.out.mono ?_
  rintro e w1 ⟨rfl, rfl⟩
  go_upto_region 5 with fail
  have d0 := hx.cell 0
  obtain ⟨wD, HwD⟩ := nm w1.drew
  have uD : Upd Non w1 wD := by rw [← HwD.out]; exact Upd.refl.drew
  have C1 := Lib.hid (CV.out wD x (H.out.non uD) hv)
  refine wp_region_held_drew (S := fun w' => w'.cell? ⟨bx, 0, none⟩ = some (.pointer (some ⟨p, 0, none⟩))) (by kernel_rfl) (by rw [HwD.out]; exact cell_upd d0 uD (fun f => f)) (fun hHeld => ?_)
  rw [HwD.out] at hHeld ⊢
  refine wpT 0 ?_
  try simp only [put_y]
  try simp only [Act.put]
  try simp only [put_z]
  refine wpT 1 ?_
  try simp only [put_y]
  try simp only [Act.put]
  try simp only [put_z]
  refine wpT 2 ?_
  try simp only [put_y]
  try simp only [Act.put]
  try simp only [put_z]
  refine wpT 3 ?_
  try simp only [put_y]
  try simp only [Act.put]
  try simp only [put_z]
  refine wpT 4 ?_
  try simp only [put_y]
  try simp only [Act.put]
  try simp only [put_z]
  refine wpAnyH_ready (rs := [5]) (by kernel_rfl) (by simp) ?_
  refine AllReadyH.cons rfl (fun K hK => ?_) AllReadyH.nil
  go_simp
  refine C1.out.mono ?_
  rintro e w2 ⟨rfl, y, hy, hy1, hy2, hk, hu⟩
  go_wp2_with fail
  have d2 := cell_upd (cell_upd d0 uD (fun f => f)) hu hxo
  refine hK.out _ _ ?_ (fun hHeld => ?_)
  ·
   exact d2
  clear hK K
  try simp only [put_y]
  try simp only [Act.put]
  try simp only [put_z]
  refine wpT 6 ?_
  try simp only [put_y]
  try simp only [Act.put]
  try simp only [put_z]
  refine wpAnyH_done (by kernel_rfl) ?_ _
  have hlv : y.left = x.left := hk.left
  have hu2 : Upd (x.own p) w1 w2 := (uD.mono (fun _ _ f => f.elim)).trans hu (fun _ _ q => q)
  have hk2 : Keeps w1 p x y := ⟨hk.i, hk.why, hk.ea, hk.left, fun j hj => (hk.own j hj).imp_right (fun q => Nat.le_trans uD.size q)⟩
  obtain ⟨V, HV⟩ := nm (varF s 63 x.vs x.left)
  have HVZ : Hid (V.1 = 0 → V.2 = x.vs) := fun q => by rw [← HV.out] at q ⊢; exact varF_zero q
  rw [HV.out] at hy1 HO2 ⊢
  have hg2 := HG.out.upd hu2 hgo
  have hx2 := HX.out.upd hu2 hxo
  have HY := Lib.hid hy
  have HY1 := Lib.hid hy1
  have HY2 := Lib.hid hy2
  have HK := Lib.hid hk2
  have HU := Lib.hid hu2
  clear hHeld C1 CV hy hy1 hy2 hk hu hk2 hu2 uD HwD d0 hx
  have hyo : ∀ j, j = g ∨ j = bx → ¬ y.own p j := fun j hj q => by
   rcases HK.out.own j q with r | r
   ·
    rcases hj with e | e
    ·
     exact hgo (e ▸ r)
    ·
     exact hxo (e ▸ r)
   ·
    have := HG.out.lt
    have := HX.out.lt
    rcases hj with e | e <;> omega
  have HYO := Lib.hid hyo
  clear hyo
  obtain ⟨v1, Hv1⟩ := nm V.1
  rw [Hv1.out] at HVZ HO2 ⊢
  by_cases hpos : 0 < v1
  ·
   have fp : decide ((0 : Int) < (v1 : Int)) = true := decide_eq_true (by omega)
   have HS : Hid (o = some (.mk v1 0 0 0 [], { psOf x with vs := V.2 })) := by show _ = _; rw [HO2.out, if_pos hpos]
   have hg := hg2
   unfold p0 at hg
   have y0 := hg.cell 0
   have y1 := hg.cell 1
   have y2 := hg.cell 2
   have y3 := hg.cell 3
   have y4 := hg.cell 4
   have yf := hg.frozen
   have HGB := Lib.hid hg
   clear HO2 CM hg hg2 hx2 d2
   go_wp2_with fail
   go_ret
   rw [set5_eq]
   have us := set5_upd w2 g (.int .i64 v1) (.int .i64 0) (.int .i64 0) (.int .i64 0) (.slice none 0 0)
   refine ⟨.mk v1 0 0 0 [], true, y, rfl, rfl, set5_blk HGB.out _ _ _ _ _, HY.out.upd us (fun k _ e => by subst e; exact ⟨hpg, fun r => HYO.out _ (.inl rfl) (.inr (.inl r)), fun r => HYO.out _ (.inl rfl) (.inr (.inr r))⟩), HK.out, (HU.out.mono (fun _ _ q => .inl q)).trans us (fun _ _ q => .inr q), (fun _ => ⟨_, HS.out, rfl, HY1.out, HY2.out⟩), (fun q => by cases q)⟩
  ·
   have fp : decide ((0 : Int) < (v1 : Int)) = false := decide_eq_false (by omega)
   have HO3 : Hid (o = if 0 < (varF s 36 x.ms x.left).1 then some (.mk 0 1 0 (varF s 36 x.ms x.left).1 [], { psOf x with ms := (varF s 36 x.ms x.left).2 }) else none) := by show _ = _; rw [HO2.out, if_neg hpos]
   have HVS : Hid (y.vs = x.vs) := by show _ = _; rw [HY1.out]; exact HVZ.out (by omega)
   clear HO2 HVZ
   go_upto_region 9 with fail
   obtain ⟨wE, HwE⟩ := nm w2.drew
   have uE : Upd Non w2 wE := by rw [← HwE.out]; exact Upd.refl.drew
   have C2 := Lib.hid (CM.out wE y (HY.out.non uE) (by rw [HY2.out]; exact hm))
   rw [HY2.out, HK.out.left] at C2
   refine wp_region_held_drew (S := fun w' => w'.cell? ⟨bx, 0, none⟩ = some (.pointer (some ⟨p, 0, none⟩))) (by kernel_rfl) (by rw [HwE.out]; exact cell_upd d2 uE (fun f => f)) (fun hHeld => ?_)
   rw [HwE.out] at hHeld ⊢
   refine wpT 0 ?_
   try simp only [put_y]
   try simp only [Act.put]
   try simp only [put_z]
   refine wpT 1 ?_
   try simp only [put_y]
   try simp only [Act.put]
   try simp only [put_z]
   refine wpT 2 ?_
   try simp only [put_y]
   try simp only [Act.put]
   try simp only [put_z]
   refine wpT 3 ?_
   try simp only [put_y]
   try simp only [Act.put]
   try simp only [put_z]
   refine wpT 4 ?_
   try simp only [put_y]
   try simp only [Act.put]
   try simp only [put_z]
   refine wpAnyH_ready (rs := [5]) (by kernel_rfl) (by simp) ?_
   refine AllReadyH.cons rfl (fun K hK => ?_) AllReadyH.nil
   go_simp
   refine C2.out.mono ?_
   rintro e w3 ⟨rfl, z, hz, hz1, hz2, hkz, huz⟩
   go_wp2_with fail
   have d3 := cell_upd (cell_upd d2 uE (fun f => f)) huz (HYO.out _ (.inr rfl))
   refine hK.out _ _ ?_ (fun hHeld => ?_)
   ·
    exact d3
   clear hK K
   try simp only [put_y]
   try simp only [Act.put]
   try simp only [put_z]
   refine wpT 6 ?_
   try simp only [put_y]
   try simp only [Act.put]
   try simp only [put_z]
   refine wpAnyH_done (by kernel_rfl) ?_ _
   obtain ⟨M, HM⟩ := nm (varF s 36 x.ms x.left)
   rw [HM.out] at hz1 HO3 ⊢
   obtain ⟨m1, Hm1⟩ := nm M.1
   rw [Hm1.out] at HO3 ⊢
   have hg := ((hg2.upd uE (fun f => f)).upd huz (HYO.out _ (.inl rfl)))
   have huz2 : Upd (y.own p) w2 w3 := (uE.mono (fun _ _ f => f.elim)).trans huz (fun _ _ q => q)
   have HKZ : Hid (Keeps w1 p x z) := HK.out.trans ⟨hkz.i, hkz.why, hkz.ea, hkz.left, fun j hj => (hkz.own j hj).imp_right (fun q => Nat.le_trans uE.size q)⟩ HU.out.size
   have HUZ : Hid (Upd (fun k => x.own p k ∨ k = g) w1 w3) := (HU.out.mono (fun _ _ q => .inl q)).trans huz2 (fun j hj q => by
    rcases HK.out.own j q with r | r
    ·
     exact .inl r
    ·
     omega)
   have HZO : Hid (¬ z.own p g) := fun q => by
    rcases hkz.own g q with r | r
    ·
     exact HYO.out _ (.inl rfl) r
    ·
     have := hg2.lt; have := uE.size; omega
   have HZ := Lib.hid hz
   have HZ1 := Lib.hid hz1
   have HZ2 := Lib.hid hz2
   unfold p0 at hg
   have y0 := hg.cell 0
   have y1 := hg.cell 1
   have y2 := hg.cell 2
   have y3 := hg.cell 3
   have y4 := hg.cell 4
   have yf := hg.frozen
   have HGB := Lib.hid hg
   clear hHeld C2 CM hz hz1 hz2 hkz huz huz2 uE HwE d2 d3 hg hg2 hx2
   by_cases hpos : 0 < m1
   ·
    have fp : decide ((0 : Int) < (m1 : Int)) = true := decide_eq_true (by omega)
    have HS : Hid (o = some (.mk 0 1 0 m1 [], { psOf x with ms := M.2 })) := by show _ = _; rw [HO3.out, if_pos hpos]
    clear HO3
    go_wp2_with fail
    go_ret
    rw [set5_eq]
    have us := set5_upd w3 g (.int .i64 0) (.int .i64 1) (.int .i64 0) (.int .i64 m1) (.slice none 0 0)
    refine ⟨.mk 0 1 0 m1 [], true, z, rfl, rfl, set5_blk HGB.out _ _ _ _ _, HZ.out.upd us (fun k _ e => by subst e; exact ⟨hpg, fun r => HZO.out (.inr (.inl r)), fun r => HZO.out (.inr (.inr r))⟩), HKZ.out, HUZ.out.trans us (fun _ _ q => .inr q), (fun _ => ⟨_, HS.out, rfl, by rw [HZ2.out]; exact HVS.out, HZ1.out⟩), (fun q => by cases q)⟩
   ·
    have fp : decide ((0 : Int) < (m1 : Int)) = false := decide_eq_false (by omega)
    have HN : Hid (o = none) := by show _ = _; rw [HO3.out, if_neg hpos]
    clear HO3
    go_wp2_with fail
    go_ret
    rw [set5_eq]
    have us := set5_upd w3 g (.int .i64 0) (.int .i64 1) (.int .i64 0) (.int .i64 m1) (.slice none 0 0)
    refine ⟨.mk 0 1 0 m1 [], false, z, rfl, rfl, set5_blk HGB.out _ _ _ _ _, HZ.out.upd us (fun k _ e => by subst e; exact ⟨hpg, fun r => HZO.out (.inr (.inl r)), fun r => HZO.out (.inr (.inr r))⟩), HKZ.out, HUZ.out.trans us (fun _ _ q => .inr q), (fun q => by cases q), (fun _ => HN.out)⟩
end Go.Proofs.Ytblkgjdhaibhgaa
namespace Go.Proofs.Ytblkgjdhaibhgaa
open Go.RowKit
structure LOk (L : List Tok) (T : List (Bs × Nat)) (fin : Nat) : Prop where
 lt : T.length < L.length
 good : ∀ i (h : i < T.length), L[i]? = some ⟨T[i].1, T[i].2, false⟩
 bad : ∃ s, L[T.length]? = some ⟨s, fin, true⟩
 ne : ∀ t ∈ T, t.1 ≠ []
 sz : ∀ t ∈ T, t.1.length ≤ 20000
 len : L.length ≤ 100000
section
variable {L : List Tok} {T : List (Bs × Nat)} {fin : Nat}
theorem LOk.tk (h : LOk L T fin) {i : Nat} (hi : i ≤ T.length) (s : Bs) : isT L i s = decide (tkF T i = some s) := by
 unfold isT tkF
 rcases Nat.lt_or_ge i T.length with q | q
 ·
  rw [h.good i q, List.getElem?_eq_getElem q]
  simp
 ·
  obtain ⟨z, hz⟩ := h.bad
  rw [show i = T.length by omega, hz, List.getElem?_eq_none (Nat.le_refl _)]
  simp
theorem LOk.pos (h : LOk L T fin) {i : Nat} (hi : i ≤ T.length) : posT L i = offF T fin i := by
 unfold posT offF
 rcases Nat.lt_or_ge i T.length with q | q
 ·
  rw [h.good i q, List.getElem?_eq_getElem q]
 ·
  obtain ⟨z, hz⟩ := h.bad
  rw [show i = T.length by omega, hz, List.getElem?_eq_none (Nat.le_refl _)]
def wkF (T : List (Bs × Nat)) (i : Nat) : Option Bs := match tkF T i with | some s => if isPn (s.headD 0) then none else some s | none => none
theorem LOk.word (h : LOk L T fin) {x : St} (hi : x.i ≤ T.length) : wordOk L x = (x.why == 0 && (wkF T x.i).isSome) := by
 unfold wordOk wkF tkF
 rcases Nat.lt_or_ge x.i T.length with q | q
 ·
  rw [h.good _ q, List.getElem?_eq_getElem q]
  simp only [Option.map_some, Bool.not_false, Bool.true_and]
  cases isPn (T[x.i].1.headD 0) <;> simp
 ·
  obtain ⟨z, hz⟩ := h.bad
  rw [show x.i = T.length by omega, hz, List.getElem?_eq_none (Nat.le_refl _)]
  simp
theorem LOk.at_ (h : LOk L T fin) {i : Nat} (hi : i < L.length) {s : Bs} (hw : wkF T i = some s) : L[i].s = s ∧ L[i].bad = false ∧ s ≠ [] ∧ s.length ≤ 20000 ∧ i < T.length ∧ tkF T i = some s ∧ isPn (s.headD 0) = false := by
 unfold wkF at hw
 split at hw
 ·
  rename_i z hz
  split at hw
  ·
   cases hw
  ·
   rename_i hp
   injection hw with hw
   subst hw
   have hq : i < T.length := by
    rcases Nat.lt_or_ge i T.length with q | q
    ·
     exact q
    ·
     unfold tkF at hz; rw [List.getElem?_eq_none q] at hz; cases hz
   have e : T[i].1 = z := by unfold tkF at hz; rw [List.getElem?_eq_getElem hq] at hz; simpa using hz
   have g := h.good i hq
   rw [List.getElem?_eq_getElem hi] at g
   injection g with g
   have hm : T[i] ∈ T := List.getElem_mem hq
   refine ⟨by rw [g]; exact e, by rw [g], by rw [← e]; exact h.ne _ hm, by rw [← e]; exact h.sz _ hm, hq, hz, by simpa using hp⟩
 ·
  cases hw
theorem LOk.ne' (h : LOk L T fin) {i : Nat} (hi : i < L.length) (hT : i ≤ T.length) : L[i].bad = false → L[i].s ≠ [] := fun q => by
 rcases Nat.lt_or_ge i T.length with r | r
 ·
  have g := h.good i r
  rw [List.getElem?_eq_getElem hi] at g
  injection g with g
  rw [g]; exact h.ne _ (List.getElem_mem r)
 ·
  obtain ⟨z, hz⟩ := h.bad
  have e : i = T.length := by omega
  subst e
  rw [List.getElem?_eq_getElem hi] at hz
  injection hz with hz
  rw [hz] at q; cases q
end
def Good (T : List (Bs × Nat)) (x : St) : Prop := x.i ≤ T.length ∧ (x.why = 0 → x.vs.length ≤ x.i ∧ x.ms.length ≤ x.i)
def ResS {α : Type} (x y : St) (r : Except Er (α × PS)) (P : α → Prop) : Prop :=
 (x.why = 0 → match r with
  | .ok (v, ps) => y.why = 0 ∧ psOf y = ps ∧ P v
  | .error e => y.why = e.1 ∧ y.ea = e.2) ∧ (x.why ≠ 0 → y.why = x.why ∧ y.ea = x.ea)
theorem fail_why {x : St} {a b : Int} (h : x.why ≠ 0) : x.fail a b = x := if_neg h
theorem fail_zero {x : St} {a b : Int} (h : x.why = 0) : x.fail a b = { x with why := a, ea := b } := if_pos h
theorem fail_own (x : St) (a b : Int) (p k : Nat) : (x.fail a b).own p k ↔ x.own p k := by unfold St.fail; split <;> rfl
theorem fail_i (x : St) (a b : Int) : (x.fail a b).i = x.i := by unfold St.fail; split <;> rfl
theorem fail_left (x : St) (a b : Int) : (x.fail a b).left = x.left := by unfold St.fail; split <;> rfl
theorem Good.fail {T : List (Bs × Nat)} {x : St} (h : x.i ≤ T.length) {a b : Int} (ha : a ≠ 0) : Good T (x.fail a b) := by
 refine ⟨by rw [fail_i]; exact h, fun q => ?_⟩
 exfalso
 by_cases hx : x.why = 0
 ·
  rw [fail_zero hx] at q; exact ha q
 ·
  rw [fail_why hx] at q; exact hx q
end Go.Proofs.Ytblkgjdhaibhgaa
namespace Go.Proofs.Ytblkgjdhaibhgaa
open Go.RowKit
theorem wrd_eq {α : Type} (T : List (Bs × Nat)) (fin : Nat) (f : Bs → PS → Option (α × PS)) (x : PS) : wrdF T fin f x = match wkF T x.i with
  | some s => (match f s x with | some (a, y) => .ok (a, { y with i := x.i + 1 }) | none => .error (serr T fin x.i))
  | none => .error (serr T fin x.i) := by
 unfold wrdF wkF
 cases tkF T x.i with
 | none => rfl
 | some s =>
  dsimp only
  generalize isPn (s.headD 0) = b
  cases b <;> rfl
def appF (T : List (Bs × Nat)) (fin : Nat) (left : Bool) (f : Nat) (x : PS) : Except Er (Pt × PS) :=
 match wrdF T fin (operF left) x with
 | .error e => .error e
 | .ok (p, y) => match kidsF (termF T fin left f) ((arF p.op).getD 0) y with
  | .error e => .error e
  | .ok (l, z) => match expF T fin [41] z with
   | .error e => .error e
   | .ok u => .ok (.mk 0 p.op p.imm p.iv l, u)
theorem termF_succ (T : List (Bs × Nat)) (fin : Nat) (left : Bool) (f : Nat) (x : PS) : termF T fin left (f + 1) x = if tkF T x.i = some [40] then appF T fin left f { x with i := x.i + 1 } else wrdF T fin (atomF left) x := rfl
def TermP (T : List (Bs × Nat)) (w : World) (p : Nat) (A : Option Addr) (c : Nat) (L : List Tok) (x : St) (r : Except Er (Pt × PS)) (e : Ending) (w' : World) : Prop :=
 ∃ (q : Pt) (KA : Option Addr) (kc : Nat) (y : St), e = .returned (pv q KA kc) ∧ PtK w' (fun k => w.heap.size ≤ k ∧ ¬ y.own p k) q KA kc ∧ RdS w' p A c L y ∧ Good T y ∧ y.left = x.left ∧ (∀ k, y.own p k → x.own p k ∨ w.heap.size ≤ k) ∧ Upd (x.own p) w w' ∧ ResS x y r (fun v => v = q ∧ q.size + x.i ≤ y.i)
theorem hcf64 : ∀ (args : Array Value) (w : World), (callFunc 64 args).run Try.prog w = .ok (.enter 64 args) w := fun args w => by
 simp [callFunc, Try.func64, Try.f64]
theorem atom_len {left : Bool} {s : Bs} {x ps : PS} {q : Pt} (h : atomF left s x = some (q, ps)) : ps.vs.length ≤ x.vs.length + 1 ∧ ps.ms.length ≤ x.ms.length + 1 := by
 unfold atomF at h
 split at h
 ·
  injection h with h; injection h with _ h; subst h; exact ⟨Nat.le_succ _, Nat.le_succ _⟩
 ·
  split at h
  ·
   injection h with h; injection h with _ h; subst h; exact ⟨varF_len _ _ _ _, Nat.le_succ _⟩
  ·
   split at h
   ·
    injection h with h; injection h with _ h; subst h; exact ⟨Nat.le_succ _, varF_len _ _ _ _⟩
   ·
    cases h
theorem size_leaf' {q : Pt} (h : q.kids = []) : q.size = 1 := by rw [Pt.size_eq, h]; rfl
set_option maxRecDepth 100000 in
set_option maxHeartbeats 4000000 in
theorem rTerm_c {L : List Tok} {T : List (Bs × Nat)} {fin : Nat} (hL : LOk L T fin) (left : Bool) (f : Nat)
  (HA : ∀ {w : World} {p : Nat} {A : Option Addr} {c : Nat} {x : St}, RdS w p A c L x → Good T x → x.left = left → x.why = 0 → T.length < x.i + f → Calls Try.prog 63 #[.pointer (some ⟨p, 0, none⟩)] w (TermP T w p A c L x (appF T fin left f (psOf x))))
  {w : World} {p : Nat} {A : Option Addr} {c : Nat} {x : St} (h : RdS w p A c L x) (hx : Good T x) (hl : x.left = left) (hf : x.why = 0 → T.length < x.i + (f + 1)) :
  Calls Try.prog 42 #[.pointer (some ⟨p, 0, none⟩)] w (TermP T w p A c L x (termF T fin left (f + 1) (psOf x))) := by
 have hiL : x.i < L.length := by have := hL.lt; have := hx.1; omega
 have hLl := hL.len
 have HS : Hid (termF T fin left (f + 1) (psOf x) = if tkF T x.i = some [40] then appF T fin left f { psOf x with i := x.i + 1 } else wrdF T fin (atomF left) (psOf x)) := rfl
 obtain ⟨r, Hr⟩ := nm (termF T fin left (f + 1) (psOf x))
 rw [Hr.out] at HS ⊢
 obtain ⟨W1, HW1⟩ := nm (w.alloc (.cells #[.pointer (some ⟨p, 0, none⟩)] 53))
 have u1 : Upd Non w W1 := by rw [← HW1.out]; exact Upd.refl.alloc _
 have b1 : Blk W1 w.heap.size 53 #[.pointer (some ⟨p, 0, none⟩)] := by rw [← HW1.out]; exact Blk.new _ _ _
 have s1 : W1.heap.size = w.heap.size + 1 := by rw [← HW1.out]; simp
 obtain ⟨W2, HW2⟩ := nm (W1.alloc (.cells #[.int .i64 0, .int .i64 0, .int .i64 0, .int .i64 0, .slice none 0 0] 30))
 have u2 : Upd Non W1 W2 := by rw [← HW2.out]; exact Upd.refl.alloc _
 have b2 : Blk W2 (w.heap.size + 1) 30 #[.int .i64 0, .int .i64 0, .int .i64 0, .int .i64 0, .slice none 0 0] := by rw [← HW2.out, ← s1]; exact Blk.new _ _ _
 have s2 : W2.heap.size = w.heap.size + 2 := by rw [← HW2.out]; simp [s1]
 have b1 := b1.upd u2 (fun f => f)
 have U2 := u1.then_non u2
 have e1 := HW1.out
 have e2 := HW2.out
 have h2 := h.non U2
 have CI := Lib.hid (rIs_c h2 hiL [40])
 rw [hL.tk hx.1 [40]] at CI
 have d0 := b1.cell 0
 have H := Lib.hid h
 have H2 := Lib.hid h2
 have HX := Lib.hid hx
 have HB1 := Lib.hid b1
 have HB2 := Lib.hid b2
 have HU2 := Lib.hid U2
 have hpw : p < w.heap.size := h.blk.lt
 obtain ⟨z, Hz⟩ := nm (x.why == 0 && decide (tkF T x.i = some [40]))
 rw [Hz.out] at CI
 clear h h2 b1 b2 u1 u2 U2 HW1 HW2 hx
 go_enter Try.func42, Try.ntmps42
 go_wp2_with fail
 refine CI.out.mono ?_
 rintro e w3 ⟨rfl, hu3⟩
 have d3 := cell_upd d0 hu3 (fun f => f)
 have H3 := Lib.hid (H2.out.non hu3)
 have HU3 := Lib.hid (HU2.out.then_non hu3)
 have HB3 := Lib.hid (HB2.out.upd hu3 (fun f => f))
 have HX3 := Lib.hid (HB1.out.upd hu3 (fun f => f))
 have s3 := hu3.size
 clear CI d0 H2 HU2 HB2 HB1 hu3 e1 e2
 cases z with
 | true =>
  have hz := Hz.out
  simp only [Bool.and_eq_true, beq_iff_eq, decide_eq_true_eq] at hz
  have HZ1 : Hid (x.why = 0) := hz.1
  have HR : Hid (r = appF T fin left f { psOf x with i := x.i + 1 }) := by show _ = _; rw [HS.out, if_pos hz.2]
  have hiT : x.i < T.length := by
   rcases Nat.lt_or_ge x.i T.length with q | q
   ·
    exact q
   ·
    have := hz.2; unfold tkF at this; rw [List.getElem?_eq_none q] at this; cases this
  obtain ⟨c0, c1, c2, c3, c4, c5, c6⟩ := H3.out.cells
  have cf := H3.out.blk.frozen
  have hlt5 : x.i < 100000 := by omega
  obtain ⟨i, Hi⟩ := nm x.i
  rw [Hi.out] at c1 hlt5
  obtain ⟨W4, HW4⟩ := nm (w3.setCell ⟨p, 1, none⟩ (.int .i64 ((i : Int) + 1)))
  have u4 : Upd (· = p) w3 W4 := by rw [← HW4.out]; exact updCell _ _ _ _
  have h4 : RdS W4 p A c L { x with i := x.i + 1 } := by
   refine H3.out.set u4 ?_ rfl rfl rfl rfl rfl rfl
   have := H3.out.blk.set_ 1 (.int .i64 ((i : Int) + 1))
   rw [HW4.out] at this
   simpa [rcells, Hi.out] using this
  have e4 := HW4.out
  have d4 := cell_upd d3 u4 (by omega)
  have s4 := u4.size
  have CA := Lib.hid (HA h4 ⟨hiT, fun _ => by have := HX.out.2 hz.1; exact ⟨Nat.le_succ_of_le this.1, Nat.le_succ_of_le this.2⟩⟩ hl hz.1 (by have := hf hz.1; show T.length < x.i + 1 + f; omega))
  have b4 := HB3.out.upd u4 (by omega)
  have HU4 : Hid (Upd (· = p) w W4) := (HU3.out.mono (fun _ _ f => f.elim)).trans u4 (fun _ _ q => q)
  have HB4 := Lib.hid b4
  clear Hz HS hz c0 c2 c3 c4 c5 c6 h4 u4 b4 HA hf
  go_wp2_with fail
  refine CA.out.mono ?_
  rintro e w5 ⟨q, KA, kc, y, rfl, hq, hy, hg, hyl, ho, hu, hres⟩
  have hown : ∀ j, St.own { x with i := i + 1 } p j → j < w.heap.size := fun j hj => H.out.lt (x := x) (by rcases hj with q | q | q; exact .inl q; exact .inr (.inl q); exact .inr (.inr q))
  have b5 := HB4.out.upd hu (fun q => by have := hown _ (by rw [← Hi.out]; exact q); omega)
  have y0 := b5.cell 0
  have y1 := b5.cell 1
  have y2 := b5.cell 2
  have y3 := b5.cell 3
  have y4 := b5.cell 4
  have yf := b5.frozen
  have HB5 := Lib.hid b5
  have HQ := Lib.hid hq
  have HY := Lib.hid hy
  have HG := Lib.hid hg
  have HO := Lib.hid ho
  have HU := Lib.hid hu
  have HRS := Lib.hid hres
  have HYL := Lib.hid hyl
  clear b5 hq hy hg ho hu hres hyl CA d4 c1 cf e4
  unfold pv
  go_wp2_with fail
  rw [set5_eq]
  have us := set5_upd w5 (w.heap.size + 1) (.int .i64 q.v) (.int .i64 q.op) (.int .i64 q.imm) (.int .i64 q.iv) (.slice KA q.kids.length kc)
  refine bodyPost_ret (results_cell_row rfl _ _ (w.heap.size + 1) 30 _ (0, 0) _ rfl (set5_blk HB5.out _ _ _ _ _) Try.underlying30 rfl (by kernel_rfl)) rfl ?_
  have hyg : ∀ j, y.own p j → j < w.heap.size ∨ W4.heap.size ≤ j := fun j hj => (HO.out j hj).imp_left (fun q => hown j (by rw [← Hi.out]; exact q))
  refine ⟨q, KA, kc, y, rfl, ?_, HY.out.upd us (fun j _ e => ?_), HG.out, HYL.out, fun j hj => ?_, ?_, ?_⟩
  ·
   exact PtK.mono (fun k _ hk => ⟨by omega, hk.2⟩) _ _ _ (PtK.upd us (fun k _ hk e => by omega) _ _ _ HQ.out)
  ·
   subst e
   exact ⟨by omega, fun q => by rcases hyg _ (.inr (.inl q)) with r | r <;> omega, fun q => by rcases hyg _ (.inr (.inr q)) with r | r <;> omega⟩
  ·
   rcases HO.out j hj with q | q
   ·
    exact .inl (by rcases q with q | q | q; exact .inl q; exact .inr (.inl q); exact .inr (.inr q))
   ·
    exact .inr (by omega)
  ·
   exact ((HU4.out.mono (fun _ _ q => .inl q)).trans HU.out (fun j _ q => by rcases q with q | q | q; exact .inl q; exact .inr (.inl q); exact .inr (.inr q))).trans us (fun j hj e => by omega)
  ·
   rw [HR.out]
   refine ⟨fun h0 => ?_, fun h0 => absurd HZ1.out h0⟩
   have h3 := HRS.out.1 h0
   have e : psOf { x with i := x.i + 1 } = { psOf x with i := x.i + 1 } := rfl
   rw [e] at h3
   cases hc : appF T fin left f { psOf x with i := x.i + 1 } with
   | error e => rw [hc] at h3; exact h3
   | ok v => rw [hc] at h3; exact ⟨h3.1, h3.2.1, h3.2.2.1, by have := h3.2.2.2; show q.size + x.i ≤ y.i; have h5 : q.size + (x.i + 1) ≤ y.i := this; omega⟩
 | false =>
  have HR : Hid (x.why = 0 → r = wrdF T fin (atomF left) (psOf x)) := fun h0 => by
   rw [HS.out, if_neg]
   intro q
   have hz := Hz.out
   rw [h0, decide_eq_true q] at hz
   cases hz
  obtain ⟨W4, HW4⟩ := nm (w3.alloc (.cells #[.int .i64 0, .int .i64 0, .int .i64 0, .int .i64 0, .slice none 0 0] 30))
  have u4 : Upd Non w3 W4 := by rw [← HW4.out]; exact Upd.refl.alloc _
  have g4 : Blk W4 w3.heap.size 30 (p0 (.mk 0 0 0 0 [])) := by rw [← HW4.out]; exact Blk.new _ _ _
  have s4 : W4.heap.size = w3.heap.size + 1 := by rw [← HW4.out]; simp
  have e4 := HW4.out
  have H4 := Lib.hid (H3.out.non u4)
  have HX4 := Lib.hid (HX3.out.upd u4 (fun f => f))
  have HB4 := Lib.hid (HB3.out.upd u4 (fun f => f))
  have HG4 := Lib.hid g4
  have HU4 := Lib.hid (HU3.out.then_non u4)
  have d4 := cell_upd d3 u4 (fun f => f)
  have hown : ∀ j, x.own p j → j < w.heap.size := fun j hj => H.out.lt hj
  have hwn : x.why = 0 → x.vs.length ≤ 100000 ∧ x.ms.length ≤ 100000 := fun h0 => by have := HX.out.2 h0; omega
  have CW := Lib.hid (rWord_c H4.out hiL hLl (hL.ne' hiL HX.out.1) 64 #[.pointer (some ⟨w3.heap.size, 0, none⟩), .pointer (some ⟨w.heap.size, 0, none⟩)] hcf64
   (fun bb x2 w1 w2 => ∃ q, q.kids = [] ∧ Blk w2 w3.heap.size 30 (p0 q) ∧ (∀ k, x2.own p k → x.own p k ∨ w1.heap.size ≤ k) ∧ x2.left = x.left ∧ Upd (fun k => x.own p k ∨ k = w3.heap.size) w1 w2 ∧ (bb = true → ∃ ps, atomF left L[x.i].s (psOf x) = some (q, ps) ∧ ps.i = x.i ∧ x2.vs = ps.vs ∧ x2.ms = ps.ms) ∧ (bb = false → atomF left L[x.i].s (psOf x) = none))
   (fun hok w1 u01 => by
    rw [hL.word HX.out.1, Bool.and_eq_true, beq_iff_eq] at hok
    obtain ⟨sw, hsw⟩ := Option.isSome_iff_exists.1 hok.2
    obtain ⟨f1, f2, f3, f4, f5, f6, f7⟩ := hL.at_ hiL hsw
    have hb := hwn hok.1
    refine (rTerm1_c (H4.out.non u01) hb.2 hb.1 L[x.i].s (by rw [f1]; omega) (.mk 0 0 0 0 []) (HG4.out.upd u01 (fun f => f)) (HX4.out.upd u01 (fun f => f)) (fun q => by have := hown _ q; omega) (fun q => by have := hown _ q; omega) (by omega)).mono ?_
    rintro e w2 ⟨q, b, y, rfl, k1, k2, k3, k4, k5, k6, k7⟩
    rw [hl] at k6 k7
    exact ⟨b, y, rfl, k3, k4.i, k4.why.trans hok.1, k5.mono (fun k _ r => by rcases r with r | r; have := hown _ r; omega; omega), k4.own, q, k1, k2, k4.own, k4.left, k5, k6, k7⟩))
  clear Hz HS HA hf g4 u4 d3 H3 HU3 HB3 HX3
  go_wp2_with fail
  refine CW.out.mono ?_
  rintro e w5 hwd
  have HWD := Lib.hid hwd
  clear hwd CW
  obtain ⟨q, y, ev, hq5, hqk, hy5, hgy, hyl, hyo, hu5, hrs⟩ : ∃ (q : Pt) (y : St), (∃ v, e = .returned v) ∧ Blk w5 w3.heap.size 30 (p0 q) ∧ q.kids = [] ∧ RdS w5 p A c L y ∧ Good T y ∧ y.left = x.left ∧ (∀ k, y.own p k → x.own p k ∨ W4.heap.size ≤ k) ∧ Upd (fun k => x.own p k ∨ k = w3.heap.size ∨ k = W4.heap.size) W4 w5 ∧ ResS x y r (fun v => v = q ∧ q.size + x.i ≤ y.i) := by
   have hpos := hL.pos HX.out.1
   rcases HWD.out with ⟨hok, bb, x2, w1, w2, u01, ⟨q, hqk, hqb, hqo, hql, hqu, ht, hff⟩, hi2, hw2, _, u2, rfl, hR⟩ | ⟨hok, rfl, hR, hu⟩
   ·
    rw [hL.word HX.out.1, Bool.and_eq_true, beq_iff_eq] at hok
    obtain ⟨sw, hsw⟩ := Option.isSome_iff_exists.1 hok.2
    obtain ⟨f1, f2, f3, f4, f5, f6, f7⟩ := hL.at_ hiL hsw
    rw [f1] at ht hff
    have hwr := HR.out hok.1
    rw [wrd_eq, show (psOf x).i = x.i from rfl, hsw] at hwr
    dsimp only at hwr
    have hqb5 : Blk w5 w3.heap.size 30 (p0 q) := hqb.upd u2 (by omega)
    have hu5 : Upd (fun k => x.own p k ∨ k = w3.heap.size ∨ k = W4.heap.size) W4 w5 := (u01.mono (fun _ _ f => f.elim)).trans ((hqu.mono (T := fun k => x.own p k ∨ k = w3.heap.size ∨ k = W4.heap.size) (fun _ _ h => by rcases h with h | h; exact .inl h; exact .inr (.inl h))).trans u2 (fun _ _ h => by rcases h with h | h; exact .inl (.inl h); exact .inr (.inr h))) (fun _ _ h => h)
    have ho5 : ∀ k, x2.own p k → x.own p k ∨ W4.heap.size ≤ k := fun k hk => (hqo k hk).imp_right (fun r => Nat.le_trans u01.size r)
    cases bb with
    | true =>
     obtain ⟨ps, ha, hpi, hvs, hms⟩ := ht rfl
     rw [ha] at hwr
     have hal := atom_len ha
     have hgx := HX.out.2 hok.1
     refine ⟨q, { x2 with i := x.i + 1 }, ⟨_, rfl⟩, hqb5, hqk, hR, ⟨f5, fun _ => ?_⟩, hql, ho5, hu5, fun _ => ?_, fun q => absurd hok.1 q⟩
     ·
      show x2.vs.length ≤ x.i + 1 ∧ x2.ms.length ≤ x.i + 1
      rw [hvs, hms]
      have : (psOf x).vs.length = x.vs.length := rfl
      have : (psOf x).ms.length = x.ms.length := rfl
      omega
     ·
      rw [hwr]
      refine ⟨hw2, ?_, rfl, ?_⟩
      ·
       show (⟨x.i + 1, x2.vs, x2.ms⟩ : PS) = ⟨x.i + 1, ps.vs, ps.ms⟩
       rw [hvs, hms]
      ·
       show q.size + x.i ≤ x.i + 1
       rw [size_leaf' hqk]; omega
    | false =>
     rw [hff rfl] at hwr
     refine ⟨q, x2.fail 2 (posT L x.i), ⟨_, rfl⟩, hqb5, hqk, hR, Good.fail (by rw [hi2]; omega) (by decide), by rw [fail_left]; exact hql, fun k hk => ho5 k ((fail_own _ _ _ _ _).1 hk), hu5, fun _ => ?_, fun q => absurd hok.1 q⟩
     rw [hwr, fail_zero hw2, hpos]
     exact ⟨rfl, rfl⟩
   ·
    refine ⟨.mk 0 0 0 0 [], x.fail 2 (posT L x.i), ⟨_, rfl⟩, HG4.out.upd hu (by omega), rfl, hR, Good.fail HX.out.1 (by decide), fail_left _ _ _, fun k hk => .inl ((fail_own _ _ _ _ _).1 hk), hu.mono (fun _ _ h => .inl (.inl h)), fun h0 => ?_, fun h0 => by rw [fail_why h0]; exact ⟨rfl, rfl⟩⟩
    rw [hL.word HX.out.1, h0] at hok
    have hwr := HR.out h0
    rw [wrd_eq, show (psOf x).i = x.i from rfl] at hwr
    cases hk : wkF T x.i with
    | none =>
     rw [hk] at hwr
     rw [hwr, fail_zero h0, hpos]
     exact ⟨rfl, rfl⟩
    | some sw => rw [hk] at hok; cases hok
  obtain ⟨v, rfl⟩ := ev
  clear HWD
  have b5 := HB4.out.upd hu5 (fun r => by
   rcases r with r | r | r
   ·
    have := hown _ r; omega
   ·
    omega
   ·
    omega)
  have y0 := b5.cell 0
  have y1 := b5.cell 1
  have y2 := b5.cell 2
  have y3 := b5.cell 3
  have y4 := b5.cell 4
  have yf := b5.frozen
  unfold p0 at hq5
  have z0 := hq5.cell 0
  have z1 := hq5.cell 1
  have z2 := hq5.cell 2
  have z3 := hq5.cell 3
  have z4 := hq5.cell 4
  have HB5 := Lib.hid b5
  have HY := Lib.hid hy5
  have HG := Lib.hid hgy
  have HO := Lib.hid hyo
  have HU := Lib.hid hu5
  have HRS := Lib.hid hrs
  have HYL := Lib.hid hyl
  have HQK := Lib.hid hqk
  clear b5 hq5 hy5 hgy hyo hu5 hrs hyl hqk d4 e4 HR hwn
  go_wp2_with fail
  rw [set5_eq]
  have us := set5_upd w5 (w.heap.size + 1) (.int .i64 q.v) (.int .i64 q.op) (.int .i64 q.imm) (.int .i64 q.iv) (.slice none 0 0)
  refine bodyPost_ret (results_cell_row rfl _ _ (w.heap.size + 1) 30 _ (0, 0) _ rfl (set5_blk HB5.out _ _ _ _ _) Try.underlying30 rfl (by kernel_rfl)) rfl ?_
  have hyg : ∀ j, y.own p j → j < w.heap.size ∨ W4.heap.size ≤ j := fun j hj => (HO.out j hj).imp_left (hown j)
  refine ⟨q, none, 0, y, ?_, ?_, HY.out.upd us (fun j _ e => ?_), HG.out, HYL.out, fun j hj => (HO.out j hj).imp_right (fun r => by omega), ?_, HRS.out⟩
  ·
   unfold pv
   rw [HQK.out]; rfl
  ·
   rw [PtK.iff, HQK.out]; exact ⟨Nat.le_refl _, .inl rfl⟩
  ·
   subst e
   exact ⟨by omega, fun q => by rcases hyg _ (.inr (.inl q)) with r | r <;> omega, fun q => by rcases hyg _ (.inr (.inr q)) with r | r <;> omega⟩
  ·
   exact ((HU4.out.mono (fun _ _ f => f.elim)).trans HU.out (fun j hj r => by
    rcases r with r | r | r
    ·
     exact r
    ·
     have := HU4.out.size; omega
    ·
     have := HU4.out.size; omega)).trans us (fun j hj e => by omega)
end Go.Proofs.Ytblkgjdhaibhgaa
namespace Go.Proofs.Ytblkgjdhaibhgaa
open Go.RowKit
def leafF (sort : Int) (dp : Bool) (vars : Int) (st : Bool) (n : Int) : Pt :=
 if sort = 2 then .mk 1 0 0 0 []
 else if n % 12 = 0 ∧ dp = true then .mk 0 1 (wordF (n.tdiv 12 % 1000) n) 0 []
 else if st then .mk (2 + n.tdiv 12 % 1000 % (if vars - 1 < 1 then 1 else vars - 1)) 0 0 0 []
 else .mk (1 + n.tdiv 12 % 1000 % vars) 0 0 0 []
def kOpF (sort : Int) (st : Bool) (n : Int) : Int :=
 if sort = 2 then 27 + n.tdiv 12 % 1000 % 3 else if st = true ∧ 9 < n % 12 then 23 else 4 + n.tdiv 12 % 1000 % 19
def kImmF (op n : Int) : Int × Int :=
 if hasImmF op then (if n.tdiv 12 % 1000 % 5 = 0 then (if op = 27 then 1 else 1 - n.tdiv 12 % 1000 % 2, 0) else (0, 1 + n.tdiv 12 % 1000 % 2)) else (0, 0)
def sortsOf (op : Int) : List Int := (List.range (arityF op).1.toNat).map fun (j : Nat) => operandSortF op j
def kidsG (g : Int → List Int → Pt × List Int) : List Int → List Int → List Pt × List Int
 | [], xs => ([], xs)
 | s :: ss, xs => ((g s xs).1 :: (kidsG g ss (g s xs).2).1, (kidsG g ss (g s xs).2).2)
def patF (vars : Int) (st : Bool) : Nat → Int → List Int → Pt × List Int
 | 0, s, xs => (leafF s true vars st (xs.headD 0), xs.tail)
 | f + 1, s, xs =>
  if xs.headD 0 % 12 < 3 then (leafF s (decide (f < 2)) vars st (xs.headD 0), xs.tail)
  else (.mk 0 (kOpF s st (xs.headD 0)) (kImmF (kOpF s st (xs.headD 0)) (xs.headD 0)).1 (kImmF (kOpF s st (xs.headD 0)) (xs.headD 0)).2 (kidsG (patF vars st f) (sortsOf (kOpF s st (xs.headD 0))) xs.tail).1,
   (kidsG (patF vars st f) (sortsOf (kOpF s st (xs.headD 0))) xs.tail).2)
theorem kidsG_snoc (g : Int → List Int → Pt × List Int) (s : Int) : ∀ (ss : List Int) (xs : List Int), kidsG g (ss ++ [s]) xs = ((kidsG g ss xs).1 ++ [(g s (kidsG g ss xs).2).1], (g s (kidsG g ss xs).2).2)
 | [], xs => rfl
 | t :: ss, xs => by
  simp only [List.cons_append, kidsG, kidsG_snoc g s ss]
theorem kidsG_len (g : Int → List Int → Pt × List Int) : ∀ (ss : List Int) (xs : List Int), (kidsG g ss xs).1.length = ss.length
 | [], _ => rfl
 | s :: ss, xs => by simp only [kidsG, List.length_cons, kidsG_len g ss]
theorem kidsG_size {g : Int → List Int → Pt × List Int} {B : Nat} (h : ∀ s xs, (g s xs).1.size ≤ B) : ∀ (ss : List Int) (xs : List Int), Pt.sizeL (kidsG g ss xs).1 ≤ B * ss.length
 | [], _ => by simp [kidsG, Pt.sizeL]
 | s :: ss, xs => by
  have h1 := kidsG_size h ss (g s xs).2
  have h2 := h s xs
  simp only [kidsG, Pt.sizeL, List.length_cons, Nat.mul_add]
  omega
theorem kOp_arity (sort : Int) (st : Bool) (n : Int) : 0 ≤ (arityF (kOpF sort st n)).1 ∧ (arityF (kOpF sort st n)).1 ≤ 3 := by
 have h1 : ∀ k : Fin 30, 0 ≤ (arityF (k.val : Int)).1 ∧ (arityF (k.val : Int)).1 ≤ 3 := by decide +kernel
 have h2 : 0 ≤ kOpF sort st n ∧ kOpF sort st n < 30 := by
  unfold kOpF
  split
  ·
   omega
  ·
   split
   ·
    omega
   ·
    omega
 obtain ⟨k, hk⟩ := Int.eq_ofNat_of_zero_le h2.1
 rw [hk]
 exact h1 ⟨k, by omega⟩
theorem sortsOf_len (op : Int) : (sortsOf op).length = (arityF op).1.toNat := by unfold sortsOf; simp
theorem sortsOf_get (op : Int) (j : Nat) (h : j < (sortsOf op).length) : (sortsOf op)[j] = operandSortF op j := by simp [sortsOf]
theorem leaf_size (sort : Int) (dp : Bool) (vars : Int) (st : Bool) (n : Int) : (leafF sort dp vars st n).size = 1 := by
 unfold leafF
 split
 ·
  exact Pt.size_leaf _ _ _ _
 ·
  split
  ·
   exact Pt.size_leaf _ _ _ _
  ·
   split <;> exact Pt.size_leaf _ _ _ _
def kSize : Nat → Nat
 | 0 => 1
 | f + 1 => 1 + 3 * kSize f
theorem patF_size (vars : Int) (st : Bool) : ∀ (f : Nat) (s : Int) (xs : List Int), (patF vars st f s xs).1.size ≤ kSize f
 | 0, s, xs => by simp only [patF, kSize, leaf_size]; omega
 | f + 1, s, xs => by
  simp only [patF]
  split
  ·
   simp only [leaf_size, kSize]; omega
  ·
   rw [Pt.size_eq]
   simp only [Pt.kids, kSize]
   have h := kidsG_size (patF_size vars st f) (sortsOf (kOpF s st (xs.headD 0))) xs.tail
   have h1 := kOp_arity s st (xs.headD 0)
   rw [sortsOf_len] at h
   have h2 : kSize f * (arityF (kOpF s st (xs.headD 0))).1.toNat ≤ kSize f * 3 := Nat.mul_le_mul (Nat.le_refl _) (by omega)
   omega
end Go.Proofs.Ytblkgjdhaibhgaa
namespace Go.Proofs.Ytblkgjdhaibhgaa
open Go.RowKit
def findG : List Int → Int → Nat → Option Nat
 | [], _, _ => none
 | y :: l, x, k => if y = x then some k else findG l x (k + 1)
def lastG : List Int → Int → Nat → Int → Int
 | [], _, _, a => a
 | y :: l, x, k, a => lastG l x (k + 1) (if y = x then (k : Int) else a)
def numV (vs : List Int) (x : Int) : Int × List Int :=
 match findG vs x 0 with
 | some i => ((i : Int) + 1, vs)
 | none => ((vs.length : Int) + 1, vs ++ [x])
def numI (ms : List Int) (x : Int) : Int × List Int :=
 if 0 < x then (if lastG ms x 0 (-1) < 0 then ((ms.length : Int) + 1, ms ++ [x]) else (lastG ms x 0 (-1) + 1, ms)) else (x, ms)
mutual
def numF : Pt → List Int → List Int → Pt × List Int × List Int
 | .mk v op imm iv kids, vs, ms =>
  if 0 < v then (.mk (numV vs v).1 op imm iv kids, (numV vs v).2, ms)
  else (.mk v op imm (numI ms iv).1 (numL kids vs (numI ms iv).2).1, (numL kids vs (numI ms iv).2).2.1, (numL kids vs (numI ms iv).2).2.2)
def numL : List Pt → List Int → List Int → List Pt × List Int × List Int
 | [], vs, ms => ([], vs, ms)
 | k :: ks, vs, ms => ((numF k vs ms).1 :: (numL ks (numF k vs ms).2.1 (numF k vs ms).2.2).1, (numL ks (numF k vs ms).2.1 (numF k vs ms).2.2).2.1, (numL ks (numF k vs ms).2.1 (numF k vs ms).2.2).2.2)
end
theorem numF_var {p : Pt} (h : 0 < p.v) (vs ms : List Int) : numF p vs ms = (.mk (numV vs p.v).1 p.op p.imm p.iv p.kids, (numV vs p.v).2, ms) := by
 cases p with
 | mk v op imm iv kids => simp only [numF, Pt.v, Pt.op, Pt.imm, Pt.iv, Pt.kids] at h ⊢; rw [if_pos h]
theorem numF_op {p : Pt} (h : ¬ 0 < p.v) (vs ms : List Int) : numF p vs ms = (.mk p.v p.op p.imm (numI ms p.iv).1 (numL p.kids vs (numI ms p.iv).2).1, (numL p.kids vs (numI ms p.iv).2).2.1, (numL p.kids vs (numI ms p.iv).2).2.2) := by
 cases p with
 | mk v op imm iv kids => simp only [numF, Pt.v, Pt.op, Pt.imm, Pt.iv, Pt.kids] at h ⊢; rw [if_neg h]
theorem numL_snoc (k : Pt) : ∀ (ks : List Pt) (vs ms : List Int), numL (ks ++ [k]) vs ms = ((numL ks vs ms).1 ++ [(numF k (numL ks vs ms).2.1 (numL ks vs ms).2.2).1], (numF k (numL ks vs ms).2.1 (numL ks vs ms).2.2).2)
 | [], vs, ms => by simp only [List.nil_append, numL]
 | x :: ks, vs, ms => by simp only [List.cons_append, numL, numL_snoc k ks]
theorem numL_len : ∀ (ks : List Pt) (vs ms : List Int), (numL ks vs ms).1.length = ks.length
 | [], _, _ => by simp [numL]
 | x :: ks, vs, ms => by simp only [numL, List.length_cons, numL_len ks]
theorem numV_len (vs : List Int) (x : Int) : (numV vs x).2.length ≤ vs.length + 1 := by
 unfold numV
 split <;> simp
theorem numI_len (ms : List Int) (x : Int) : (numI ms x).2.length ≤ ms.length + 1 := by
 unfold numI
 split
 ·
  split <;> simp
 ·
  simp
mutual
theorem numF_len : ∀ (p : Pt) (vs ms : List Int), (numF p vs ms).2.1.length ≤ vs.length + p.size ∧ (numF p vs ms).2.2.length ≤ ms.length + p.size ∧ (numF p vs ms).1.size = p.size
 | .mk v op imm iv kids, vs, ms => by
  simp only [numF]
  split
  ·
   have := numV_len vs v
   simp only [Pt.size]
   refine ⟨?_, ?_, trivial⟩ <;> omega
  ·
   obtain ⟨h1, h2, h3⟩ := numL_lens kids vs (numI ms iv).2
   have := numI_len ms iv
   simp only [Pt.size, h3]
   refine ⟨?_, ?_, trivial⟩ <;> omega
theorem numL_lens : ∀ (ks : List Pt) (vs ms : List Int), (numL ks vs ms).2.1.length ≤ vs.length + Pt.sizeL ks ∧ (numL ks vs ms).2.2.length ≤ ms.length + Pt.sizeL ks ∧ Pt.sizeL (numL ks vs ms).1 = Pt.sizeL ks
 | [], vs, ms => by simp [numL, Pt.sizeL]
 | k :: ks, vs, ms => by
  obtain ⟨h1, h2, h3⟩ := numF_len k vs ms
  obtain ⟨g1, g2, g3⟩ := numL_lens ks (numF k vs ms).2.1 (numF k vs ms).2.2
  simp only [numL, Pt.sizeL, h3, g3]
  refine ⟨?_, ?_, trivial⟩ <;> omega
end
end Go.Proofs.Ytblkgjdhaibhgaa
namespace Go.Proofs.Ytblkgjdhaibhgaa
open Go.RowKit
theorem T_pats : SlT Try.prog 28 30 5 56 := by
 obtain ⟨i, h1, h2, h3, h4⟩ := info_parts (show (Try.prog.info? 30).map (fun i => (i.zero, i.size, i.bytes)) = some (some (.agg #[.int .i64 0, .int .i64 0, .int .i64 0, .int .i64 0, .slice none 0 0]), 5, 56) from by kernel_rfl)
 exact ⟨Try.underlying28, ⟨i, _, h1, h2, h3, h4, rfl⟩, by omega⟩
section
variable {w w' : World} {F G G' S : Nat → Prop} {A : Option Addr} {L : List Pt} {n c : Nat}
def pcells (p : Pt) (KA : Option Addr) (kc : Nat) : List Value := [.int .i64 p.v, .int .i64 p.op, .int .i64 p.imm, .int .i64 p.iv, .slice KA p.kids.length kc]
def PtCells (w : World) (K : Nat → Prop) (cs : List Value) (L : List Pt) : Prop :=
 cs.length = 5 * L.length ∧ ∀ i (h : i < L.length), ∃ KA kc, (∀ j, j < 5 → cs[5 * i + j]? = (pcells L[i] KA kc)[j]?) ∧ PtK w K L[i] KA kc
theorem PtCells.nil {K : Nat → Prop} : PtCells w K [] [] := ⟨rfl, fun i h => by simp at h⟩
theorem PtCells.mono {K K' S : Nat → Prop} {cs : List Value} (h : PtCells w K cs L) (u : Upd S w w') (d : ∀ k, k < w.heap.size → K k → ¬ S k) (hK : ∀ k, k < w.heap.size → K k → K' k) : PtCells w' K' cs L := by
 refine ⟨h.1, fun i hi => ?_⟩
 obtain ⟨KA, kc, h1, h5⟩ := h.2 i hi
 refine ⟨KA, kc, h1, ?_⟩
 have h6 := PtK.mono (G := fun k => K' k ∧ K k) (fun k hk hK0 => ⟨hK k hk hK0, hK0⟩) _ _ _ h5
 exact PtK.mono (fun _ _ h => h.1) _ _ _ (PtK.upd u (fun k hk hk' => d k hk hk'.2) _ _ _ h6)
theorem PtCells.snoc {K : Nat → Prop} {cs : List Value} (h : PtCells w K cs L) {p : Pt} {KA : Option Addr} {kc : Nat} (hk : PtK w K p KA kc) :
  PtCells w K (cs ++ pcells p KA kc) (L ++ [p]) := by
 refine ⟨by simp [h.1, pcells]; omega, fun i hi => ?_⟩
 have hl := h.1
 by_cases hlt : i < L.length
 ·
  obtain ⟨KA, kc, h1, h5⟩ := h.2 i hlt
  refine ⟨KA, kc, fun j hj => ?_, ?_⟩
  ·
   rw [List.getElem?_append_left (by omega), List.getElem_append_left hlt]; exact h1 j hj
  ·
   rw [List.getElem_append_left hlt]; exact h5
 ·
  have he : i = L.length := by simp at hi; omega
  subst he
  refine ⟨KA, kc, fun j hj => ?_, ?_⟩
  ·
   rw [List.getElem?_append_right (by omega), hl]; simp
  ·
   simpa using hk
def PtO (w : World) (G : Nat → Prop) (A : Option Addr) (n c : Nat) (L : List Pt) : Prop :=
 n = L.length ∧ ∃ cs, Own w 30 5 A n c cs ∧ PtCells w (fun k => G k ∧ ¬ At A k) cs L
theorem PtO.none_ : PtO w G none 0 0 [] := ⟨rfl, [], Own.none_, PtCells.nil⟩
theorem PtO.upd (h : PtO w G A n c L) (u : Upd S w w') (dA : ∀ k, At A k → ¬ S k) (dG : ∀ k, k < w.heap.size → G k → ¬ S k) : PtO w' G A n c L := by
 obtain ⟨h1, cs, h2, h3⟩ := h
 exact ⟨h1, cs, h2.upd u dA, h3.mono u (fun k hk hg => dG k hk hg.1) (fun _ _ h => h)⟩
theorem PtO.mono (h : PtO w G A n c L) (hG : ∀ k, k < w.heap.size → G k → G' k) : PtO w G' A n c L := by
 obtain ⟨h1, cs, h2, h3⟩ := h
 exact ⟨h1, cs, h2, h3.mono (Upd.refl (S := Non)) (fun _ _ _ f => f) (fun k hk hg => ⟨hG k hk hg.1, hg.2⟩)⟩
theorem PtO.le (h : PtO w G A n c L) : n ≤ c := by obtain ⟨_, _, h2, _⟩ := h; exact h2.le
theorem PtO.lt (h : PtO w G A n c L) {k : Nat} (hk : At A k) : k < w.heap.size := by obtain ⟨_, _, h2, _⟩ := h; exact h2.lt hk
theorem PtO.view (h : PtO w G A n c L) (hA : ∀ k, At A k → F k) (hG : ∀ k, k < w.heap.size → G k → F k) (v op imm iv : Int) : PtK w F (.mk v op imm iv L) A c := by
 obtain ⟨rfl, cs, h2, h3⟩ := h
 rw [PtK.iff]
 refine ⟨h2.le, ?_⟩
 rcases h2.cases with ⟨_, h0, _, _⟩ | ⟨g, cur, rfl, hb, _, _, _, ht⟩
 ·
  exact .inl (List.eq_nil_of_length_eq_zero h0)
 ·
  refine .inr ⟨g, 0, rfl, hA g (At.some_.2 rfl), PtL.of fun i hi => ?_⟩
  have hl := h3.1
  obtain ⟨KA, kc, c1, c5⟩ := h3.2 i hi
  have hcell : ∀ j u, cs[j]? = some u → w.cell? ⟨g, j, none⟩ = some u := by
   intro j u hj
   rw [hb.cell]
   rw [← ht] at hj
   rw [List.getElem?_take] at hj
   split at hj
   ·
    simpa using hj
   ·
    cases hj
  have e : 0 + i * 5 = 5 * i := by omega
  refine ⟨KA, kc, ?_, ?_, ?_, ?_, ?_, PtK.mono (fun k hk hg => hG k hk hg.1) _ _ _ c5⟩
  ·
   rw [e]; exact hcell _ _ (c1 0 (by omega))
  ·
   rw [e]; exact hcell _ _ (c1 1 (by omega))
  ·
   rw [e]; exact hcell _ _ (c1 2 (by omega))
  ·
   rw [e]; exact hcell _ _ (c1 3 (by omega))
  ·
   rw [e]; exact hcell _ _ (c1 4 (by omega))
theorem PtO.snoc {cs : List Value} (h : PtO w G A n c L) (hc : PtCells w (fun k => G k ∧ ¬ At A k) cs L) {p : Pt} {KA : Option Addr} {kc : Nat} (hk : PtK w (fun k => G k ∧ ¬ At A k) p KA kc)
  {A' : Option Addr} {c' : Nat} (ho : Own w' 30 5 A' (n + 1) c' (cs ++ pcells p KA kc)) (hu : Upd (At A) w w') (hat : ∀ k, At A' k → At A k ∨ k = w.heap.size) (hG : ∀ k, k < w.heap.size → G k → G' k) :
  PtO w' G' A' (n + 1) c' (L ++ [p]) := by
 refine ⟨by simp [h.1], _, ho, ?_⟩
 refine (hc.snoc hk).mono hu (fun k _ hg => hg.2) (fun k hk hg => ⟨hG k hk hg.1, fun hA => ?_⟩)
 rcases hat k hA with h | h
 ·
  exact hg.2 h
 ·
  omega
end
end Go.Proofs.Ytblkgjdhaibhgaa
