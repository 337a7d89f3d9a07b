/-
  What validName does, in the code and in the reference.
-/
import Derived.Test.YtblkgjdhaibhgaaRulQ
namespace Go.Proofs.Ytblkgjdhaibhgaa
open Go.RowKit

theorem nm_cases (x : Int) : (97 ≤ x ∧ x ≤ 122) ∨ (48 ≤ x ∧ x ≤ 57) ∨ x = 45 ∨ (x < 48 ∧ x ≠ 45) ∨ (57 < x ∧ x < 97) ∨ 122 < x := by omega
theorem all_take {s : ByteArray} {k : Nat} (hk : k < s.size) (h : ((kx s).take k).all nmCh = true) (c : nmCh ((kx s).getD k 0) = true) : ((kx s).take (k + 1)).all nmCh = true := by
  have hl : k < (kx s).length := by rw [kx_len]; exact hk
  rw [List.take_add_one, List.getElem?_eq_getElem hl, List.all_append, h]
  rw [getD_of hl] at c
  simp [c]
theorem all_bad {s : ByteArray} {k : Nat} (hk : k < s.size) (c : nmCh ((kx s).getD k 0) = false) : nameF s = false := by
  have hl : k < (kx s).length := by rw [kx_len]; exact hk
  rw [getD_of hl] at c
  unfold nameF
  have : s.data.toList.all nmCh = false := by
    rw [Bool.eq_false_iff]
    intro h
    rw [List.all_eq_true] at h
    have := h _ (List.getElem_mem hl)
    rw [c] at this; cases this
  rw [this]; rfl
theorem all_ok {s : ByteArray} (h : ((kx s).take s.size).all nmCh = true) : nameF s = decide (1 ≤ s.size ∧ s.size ≤ 16) := by
  have hl : (kx s).length ≤ s.size := by rw [kx_len]; exact Nat.le_refl _
  rw [List.take_of_length_le hl] at h
  unfold nameF
  rw [show s.data.toList.all nmCh = true from h]; rfl


set_option maxRecDepth 100000 in
set_option maxHeartbeats 4000000 in
theorem rlValidName_c (s : ByteArray) (w : World) (hs : s.size ≤ 1000000000000000) : Calls Try.prog 45 #[.string s] w fun e w' => e = .returned (.bool (nameF s)) ∧ ∃ n, w' = w.drewN n := by
  obtain ⟨n, Hn⟩ := nm s.size
  rw [Hn.out] at hs
  have hsn := Hn.out
  obtain ⟨R, HR⟩ := nm (nameF s)
  rw [HR.out]
  go_enter Try.func45, Try.ntmps45
  go_wp2_with fail
  go_loopg [3, 4] n (fun g i _ wr => ∃ k : Nat, Hid (g = n - k) ∧ k ≤ n ∧ i = .int .i64 k ∧ Hid (((kx s).take k).all nmCh = true) ∧ ∃ q, wr = w.drewN q)
  case atStart => exact ⟨0, rfl, by omega, rfl, by show _ = _; simp, 0, rfl⟩
  case round =>
    obtain ⟨k, Hg, hk, rfl, HA, n1, rfl⟩ := hrel
    by_cases hlt : k < n
    · have hks : k < s.size := by rw [Hn.out]; exact hlt
      have HOK := Lib.hid (fun c => all_take hks HA.out c)
      have HBAD := Lib.hid (fun c => @all_bad s k hks c)
      rw [HR.out] at HBAD
      have hkl : k < (kx s).length := by rw [kx_len]; exact hks
      rw [getD_of hkl, show (kx s)[k] = s[k]'hks from rfl] at HOK HBAD
      have HNC : Hid (nmCh (s[k]'hks) = decide (97 ≤ (s[k]'hks).toNat ∧ (s[k]'hks).toNat ≤ 122 ∨ 48 ≤ (s[k]'hks).toNat ∧ (s[k]'hks).toNat ≤ 57 ∨ (s[k]'hks).toNat = 45)) := rfl
      obtain ⟨x, Hx⟩ := nm (((s[k]'hks).toNat : Nat) : Int)
      have HX := Hx.out
      rcases nm_cases x with hc | hc | hc | hc | hc | hc
      · have f1 : decide ((((s[k]'hks).toNat : Nat) : Int) < 97) = false := by rw [Hx.out]; exact decide_eq_false (by omega)
        have f2 : decide (122 < (((s[k]'hks).toNat : Nat) : Int)) = false := by rw [Hx.out]; exact decide_eq_false (by omega)
        have hok : nmCh (s[k]'hks) = true := by rw [HNC.out, decide_eq_true_eq]; omega
        have HOK2 := Lib.hid (HOK.out hok)
        clear hok
        clear hc HX
        go_wp2_with fail
        go_roundg (n - (k + 1))
        case measure => rw [Hg.out]; omega
        case rel => exact ⟨k + 1, rfl, by omega, by go_num, HOK2.out, _, rfl⟩
      · have f1 : decide ((((s[k]'hks).toNat : Nat) : Int) < 97) = true := by rw [Hx.out]; exact decide_eq_true (by omega)
        have f3 : decide ((((s[k]'hks).toNat : Nat) : Int) < 48) = false := by rw [Hx.out]; exact decide_eq_false (by omega)
        have f4 : decide (57 < (((s[k]'hks).toNat : Nat) : Int)) = false := by rw [Hx.out]; exact decide_eq_false (by omega)
        have hok : nmCh (s[k]'hks) = true := by rw [HNC.out, decide_eq_true_eq]; omega
        have HOK2 := Lib.hid (HOK.out hok)
        clear hok
        clear hc HX
        go_wp2_with fail
        go_roundg (n - (k + 1))
        case measure => rw [Hg.out]; omega
        case rel => exact ⟨k + 1, rfl, by omega, by go_num, HOK2.out, _, rfl⟩
      · have f1 : decide ((((s[k]'hks).toNat : Nat) : Int) < 97) = true := by rw [Hx.out]; exact decide_eq_true (by omega)
        have f3 : decide ((((s[k]'hks).toNat : Nat) : Int) < 48) = true := by rw [Hx.out]; exact decide_eq_true (by omega)
        have f5 : ((((s[k]'hks).toNat : Nat) : Int) != 45) = false := by rw [Hx.out]; simp [hc]
        have hok : nmCh (s[k]'hks) = true := by rw [HNC.out, decide_eq_true_eq]; omega
        have HOK2 := Lib.hid (HOK.out hok)
        clear hok
        clear hc HX
        go_wp2_with fail
        go_roundg (n - (k + 1))
        case measure => rw [Hg.out]; omega
        case rel => exact ⟨k + 1, rfl, by omega, by go_num, HOK2.out, _, rfl⟩
      · have f1 : decide ((((s[k]'hks).toNat : Nat) : Int) < 97) = true := by rw [Hx.out]; exact decide_eq_true (by omega)
        have f3 : decide ((((s[k]'hks).toNat : Nat) : Int) < 48) = true := by rw [Hx.out]; exact decide_eq_true (by omega)
        have f5 : ((((s[k]'hks).toNat : Nat) : Int) != 45) = true := by rw [Hx.out]; simp; omega
        have hbad : nmCh (s[k]'hks) = false := by rw [HNC.out, decide_eq_false_iff_not]; omega
        have HB := Lib.hid (HBAD.out hbad)
        clear hbad
        clear hc HX
        go_wp2_with fail
        go_ret
        exact ⟨by rw [HB.out]; rfl, _, rfl⟩
      · have f1 : decide ((((s[k]'hks).toNat : Nat) : Int) < 97) = true := by rw [Hx.out]; exact decide_eq_true (by omega)
        have f3 : decide ((((s[k]'hks).toNat : Nat) : Int) < 48) = false := by rw [Hx.out]; exact decide_eq_false (by omega)
        have f4 : decide (57 < (((s[k]'hks).toNat : Nat) : Int)) = true := by rw [Hx.out]; exact decide_eq_true (by omega)
        have f5 : ((((s[k]'hks).toNat : Nat) : Int) != 45) = true := by rw [Hx.out]; simp; omega
        have hbad : nmCh (s[k]'hks) = false := by rw [HNC.out, decide_eq_false_iff_not]; omega
        have HB := Lib.hid (HBAD.out hbad)
        clear hbad
        clear hc HX
        go_wp2_with fail
        go_ret
        exact ⟨by rw [HB.out]; rfl, _, rfl⟩
      · have f1 : decide ((((s[k]'hks).toNat : Nat) : Int) < 97) = false := by rw [Hx.out]; exact decide_eq_false (by omega)
        have f2 : decide (122 < (((s[k]'hks).toNat : Nat) : Int)) = true := by rw [Hx.out]; exact decide_eq_true (by omega)
        have f3 : decide ((((s[k]'hks).toNat : Nat) : Int) < 48) = false := by rw [Hx.out]; exact decide_eq_false (by omega)
        have f4 : decide (57 < (((s[k]'hks).toNat : Nat) : Int)) = true := by rw [Hx.out]; exact decide_eq_true (by omega)
        have f5 : ((((s[k]'hks).toNat : Nat) : Int) != 45) = true := by rw [Hx.out]; simp; omega
        have hbad : nmCh (s[k]'hks) = false := by rw [HNC.out, decide_eq_false_iff_not]; omega
        have HB := Lib.hid (HBAD.out hbad)
        clear hbad
        clear hc HX
        go_wp2_with fail
        go_ret
        exact ⟨by rw [HB.out]; rfl, _, rfl⟩
    · obtain rfl : n = k := by omega
      have HRE : Hid (R = decide (1 ≤ n ∧ n ≤ 16)) := by
        have := HA.out
        rw [← Hn.out] at this
        show _ = _
        rw [← HR.out, all_ok this, Hn.out]
      by_cases h1 : 1 ≤ n
      · have f1 : decide ((1 : Int) ≤ (n : Int)) = true := decide_eq_true (by omega)
        by_cases h2 : n ≤ 16
        · have f2 : decide ((n : Int) ≤ 16) = true := decide_eq_true (by omega)
          have HR2 : Hid (R = true) := by show _ = _; rw [HRE.out]; exact decide_eq_true ⟨h1, h2⟩
          clear h1 h2
          go_wp2_with fail
          go_ret
          exact ⟨by rw [HR2.out]; rfl, _, rfl⟩
        · have f2 : decide ((n : Int) ≤ 16) = false := decide_eq_false (by omega)
          have HR2 : Hid (R = false) := by show _ = _; rw [HRE.out]; exact decide_eq_false (by omega)
          clear h1 h2
          go_wp2_with fail
          go_ret
          exact ⟨by rw [HR2.out]; rfl, _, rfl⟩
      · have f1 : decide ((1 : Int) ≤ (n : Int)) = false := decide_eq_false (by omega)
        have HR2 : Hid (R = false) := by show _ = _; rw [HRE.out]; exact decide_eq_false (by omega)
        clear h1
        go_wp2_with fail
        go_ret
        exact ⟨by rw [HR2.out]; rfl, _, rfl⟩
set_option maxRecDepth 100000 in
set_option maxHeartbeats 4000000 in
theorem r15validName_c (s : ByteArray) (w : World) (hs : s.size ≤ 1000000000000000) : Calls Try.prog 28 #[.string s] w fun e w' => e = .returned (.bool (nameF s)) ∧ ∃ n, w' = w.drewN n := by
  obtain ⟨n, Hn⟩ := nm s.size
  rw [Hn.out] at hs
  have hsn := Hn.out
  obtain ⟨R, HR⟩ := nm (nameF s)
  rw [HR.out]
  go_enter Try.func28, Try.ntmps28
  go_wp2_with fail
  go_loopg [3] n (fun g i wr => ∃ k : Nat, Hid (g = n - k) ∧ k ≤ n ∧ i = .int .i64 k ∧ Hid (((kx s).take k).all nmCh = true) ∧ ∃ q, wr = w.drewN q)
  case atStart => exact ⟨0, rfl, by omega, rfl, by show _ = _; simp, 0, rfl⟩
  case round =>
    obtain ⟨k, Hg, hk, rfl, HA, n1, rfl⟩ := hrel
    by_cases hlt : k < n
    · have hks : k < s.size := by rw [Hn.out]; exact hlt
      have HOK := Lib.hid (fun c => all_take hks HA.out c)
      have HBAD := Lib.hid (fun c => @all_bad s k hks c)
      rw [HR.out] at HBAD
      have hkl : k < (kx s).length := by rw [kx_len]; exact hks
      rw [getD_of hkl, show (kx s)[k] = s[k]'hks from rfl] at HOK HBAD
      have HNC : Hid (nmCh (s[k]'hks) = decide (97 ≤ (s[k]'hks).toNat ∧ (s[k]'hks).toNat ≤ 122 ∨ 48 ≤ (s[k]'hks).toNat ∧ (s[k]'hks).toNat ≤ 57 ∨ (s[k]'hks).toNat = 45)) := rfl
      obtain ⟨x, Hx⟩ := nm (((s[k]'hks).toNat : Nat) : Int)
      have HX := Hx.out
      rcases nm_cases x with hc | hc | hc | hc | hc | hc
      · have f1 : decide ((((s[k]'hks).toNat : Nat) : Int) < 97) = false := by rw [Hx.out]; exact decide_eq_false (by omega)
        have f2 : decide (122 < (((s[k]'hks).toNat : Nat) : Int)) = false := by rw [Hx.out]; exact decide_eq_false (by omega)
        have hok : nmCh (s[k]'hks) = true := by rw [HNC.out, decide_eq_true_eq]; omega
        have HOK2 := Lib.hid (HOK.out hok)
        clear hok
        clear hc HX
        go_wp2_with fail
        go_roundg (n - (k + 1))
        case measure => rw [Hg.out]; omega
        case rel => exact ⟨k + 1, rfl, by omega, by go_num, HOK2.out, _, rfl⟩
      · have f1 : decide ((((s[k]'hks).toNat : Nat) : Int) < 97) = true := by rw [Hx.out]; exact decide_eq_true (by omega)
        have f3 : decide ((((s[k]'hks).toNat : Nat) : Int) < 48) = false := by rw [Hx.out]; exact decide_eq_false (by omega)
        have f4 : decide (57 < (((s[k]'hks).toNat : Nat) : Int)) = false := by rw [Hx.out]; exact decide_eq_false (by omega)
        have hok : nmCh (s[k]'hks) = true := by rw [HNC.out, decide_eq_true_eq]; omega
        have HOK2 := Lib.hid (HOK.out hok)
        clear hok
        clear hc HX
        go_wp2_with fail
        go_roundg (n - (k + 1))
        case measure => rw [Hg.out]; omega
        case rel => exact ⟨k + 1, rfl, by omega, by go_num, HOK2.out, _, rfl⟩
      · have f1 : decide ((((s[k]'hks).toNat : Nat) : Int) < 97) = true := by rw [Hx.out]; exact decide_eq_true (by omega)
        have f3 : decide ((((s[k]'hks).toNat : Nat) : Int) < 48) = true := by rw [Hx.out]; exact decide_eq_true (by omega)
        have f5 : ((((s[k]'hks).toNat : Nat) : Int) != 45) = false := by rw [Hx.out]; simp [hc]
        have hok : nmCh (s[k]'hks) = true := by rw [HNC.out, decide_eq_true_eq]; omega
        have HOK2 := Lib.hid (HOK.out hok)
        clear hok
        clear hc HX
        go_wp2_with fail
        go_roundg (n - (k + 1))
        case measure => rw [Hg.out]; omega
        case rel => exact ⟨k + 1, rfl, by omega, by go_num, HOK2.out, _, rfl⟩
      · have f1 : decide ((((s[k]'hks).toNat : Nat) : Int) < 97) = true := by rw [Hx.out]; exact decide_eq_true (by omega)
        have f3 : decide ((((s[k]'hks).toNat : Nat) : Int) < 48) = true := by rw [Hx.out]; exact decide_eq_true (by omega)
        have f5 : ((((s[k]'hks).toNat : Nat) : Int) != 45) = true := by rw [Hx.out]; simp; omega
        have hbad : nmCh (s[k]'hks) = false := by rw [HNC.out, decide_eq_false_iff_not]; omega
        have HB := Lib.hid (HBAD.out hbad)
        clear hbad
        clear hc HX
        go_wp2_with fail
        go_ret
        exact ⟨by rw [HB.out]; rfl, _, rfl⟩
      · have f1 : decide ((((s[k]'hks).toNat : Nat) : Int) < 97) = true := by rw [Hx.out]; exact decide_eq_true (by omega)
        have f3 : decide ((((s[k]'hks).toNat : Nat) : Int) < 48) = false := by rw [Hx.out]; exact decide_eq_false (by omega)
        have f4 : decide (57 < (((s[k]'hks).toNat : Nat) : Int)) = true := by rw [Hx.out]; exact decide_eq_true (by omega)
        have f5 : ((((s[k]'hks).toNat : Nat) : Int) != 45) = true := by rw [Hx.out]; simp; omega
        have hbad : nmCh (s[k]'hks) = false := by rw [HNC.out, decide_eq_false_iff_not]; omega
        have HB := Lib.hid (HBAD.out hbad)
        clear hbad
        clear hc HX
        go_wp2_with fail
        go_ret
        exact ⟨by rw [HB.out]; rfl, _, rfl⟩
      · have f1 : decide ((((s[k]'hks).toNat : Nat) : Int) < 97) = false := by rw [Hx.out]; exact decide_eq_false (by omega)
        have f2 : decide (122 < (((s[k]'hks).toNat : Nat) : Int)) = true := by rw [Hx.out]; exact decide_eq_true (by omega)
        have f3 : decide ((((s[k]'hks).toNat : Nat) : Int) < 48) = false := by rw [Hx.out]; exact decide_eq_false (by omega)
        have f4 : decide (57 < (((s[k]'hks).toNat : Nat) : Int)) = true := by rw [Hx.out]; exact decide_eq_true (by omega)
        have f5 : ((((s[k]'hks).toNat : Nat) : Int) != 45) = true := by rw [Hx.out]; simp; omega
        have hbad : nmCh (s[k]'hks) = false := by rw [HNC.out, decide_eq_false_iff_not]; omega
        have HB := Lib.hid (HBAD.out hbad)
        clear hbad
        clear hc HX
        go_wp2_with fail
        go_ret
        exact ⟨by rw [HB.out]; rfl, _, rfl⟩
    · obtain rfl : n = k := by omega
      have HRE : Hid (R = decide (1 ≤ n ∧ n ≤ 16)) := by
        have := HA.out
        rw [← Hn.out] at this
        show _ = _
        rw [← HR.out, all_ok this, Hn.out]
      by_cases h1 : 1 ≤ n
      · have f1 : decide ((1 : Int) ≤ (n : Int)) = true := decide_eq_true (by omega)
        by_cases h2 : n ≤ 16
        · have f2 : decide ((n : Int) ≤ 16) = true := decide_eq_true (by omega)
          have HR2 : Hid (R = true) := by show _ = _; rw [HRE.out]; exact decide_eq_true ⟨h1, h2⟩
          clear h1 h2
          go_wp2_with fail
          go_ret
          exact ⟨by rw [HR2.out]; rfl, _, rfl⟩
        · have f2 : decide ((n : Int) ≤ 16) = false := decide_eq_false (by omega)
          have HR2 : Hid (R = false) := by show _ = _; rw [HRE.out]; exact decide_eq_false (by omega)
          clear h1 h2
          go_wp2_with fail
          go_ret
          exact ⟨by rw [HR2.out]; rfl, _, rfl⟩
      · have f1 : decide ((1 : Int) ≤ (n : Int)) = false := decide_eq_false (by omega)
        have HR2 : Hid (R = false) := by show _ = _; rw [HRE.out]; exact decide_eq_false (by omega)
        clear h1
        go_wp2_with fail
        go_ret
        exact ⟨by rw [HR2.out]; rfl, _, rfl⟩
end Go.Proofs.Ytblkgjdhaibhgaa
