/-
  What the small functions of the rule files' reader do.
-/
import Derived.Laws.DeepStrings4
import Derived.Test.YtblkgjdhaibhgaaTokP
import Derived.Test.YtblkgjdhaibhgaaStrP
namespace Go.Proofs.Ytblkgjdhaibhgaa
open Go.RowKit

theorem rIsPunct_c (c : UInt8) (w : World) : Calls Try.prog 37 #[.int .u8 c.toNat] w fun e w' => e = .returned (.bool (isPn c)) ∧ w' = w := by
  have HR : Hid (isPn c = decide (c.toNat = 40 ∨ c.toNat = 41 ∨ c.toNat = 59 ∨ c.toNat = 58 ∨ c.toNat = 44)) := rfl
  obtain ⟨R, HRR⟩ := nm (isPn c)
  rw [HRR.out] at HR ⊢
  obtain ⟨x, Hx⟩ := nm c.toNat
  rw [Hx.out] at HR ⊢
  by_cases h1 : x = 40
  · have f1 : ((x : Int) == 40) = true := by rw [h1]; rfl
    obtain rfl : R = true := by rw [HR.out]; exact decide_eq_true (by omega)
    clear h1
    go_enter Try.func37, Try.ntmps37
    go_wp2_with fail
    go_ret
    exact ⟨rfl, rfl⟩
  · have f1 : ((x : Int) == 40) = false := by simp; omega
    by_cases h2 : x = 41
    · have f2 : ((x : Int) == 41) = true := by rw [h2]; rfl
      obtain rfl : R = true := by rw [HR.out]; exact decide_eq_true (by omega)
      clear h1 h2
      go_enter Try.func37, Try.ntmps37
      go_wp2_with fail
      go_ret
      exact ⟨rfl, rfl⟩
    · have f2 : ((x : Int) == 41) = false := by simp; omega
      by_cases h3 : x = 59
      · have f3 : ((x : Int) == 59) = true := by rw [h3]; rfl
        obtain rfl : R = true := by rw [HR.out]; exact decide_eq_true (by omega)
        clear h1 h2 h3
        go_enter Try.func37, Try.ntmps37
        go_wp2_with fail
        go_ret
        exact ⟨rfl, rfl⟩
      · have f3 : ((x : Int) == 59) = false := by simp; omega
        by_cases h4 : x = 58
        · have f4 : ((x : Int) == 58) = true := by rw [h4]; rfl
          obtain rfl : R = true := by rw [HR.out]; exact decide_eq_true (by omega)
          clear h1 h2 h3 h4
          go_enter Try.func37, Try.ntmps37
          go_wp2_with fail
          go_ret
          exact ⟨rfl, rfl⟩
        · have f4 : ((x : Int) == 58) = false := by simp; omega
          obtain ⟨b, f5⟩ : ∃ b, ((x : Int) == 44) = b := ⟨_, rfl⟩
          obtain rfl : R = b := by
            rw [HR.out, ← f5, Bool.eq_iff_iff]
            simp only [beq_iff_eq, decide_eq_true_eq]
            omega
          clear h1 h2 h3 h4
          go_enter Try.func37, Try.ntmps37
          go_wp2_with fail
          go_ret
          exact ⟨rfl, rfl⟩

theorem isCm_drop (l : Bs) (k : Nat) : isCm (l.drop k) = decide (k + 1 < l.length ∧ (l.getD k 0).toNat = 47 ∧ (l.getD (k + 1) 0).toNat = 47) := by
  by_cases h : k + 1 < l.length
  · have h0 : k < l.length := by omega
    rw [List.drop_eq_getElem_cons h0, List.drop_eq_getElem_cons h]
    simp only [isCm, List.getD, List.getElem?_eq_getElem h, List.getElem?_eq_getElem h0, Option.getD_some, h, true_and]
  · have hl : (l.drop k).length ≤ 1 := by rw [List.length_drop]; omega
    rw [decide_eq_false (fun q => h q.1)]
    match hd : l.drop k, hl with
    | [], _ => rfl
    | [_], _ => rfl
    | _ :: _ :: _, hl => simp at hl
theorem rIsComment_c (s : ByteArray) (k : Nat) (w : World) (hk : k ≤ 1000000000000000) :
    Calls Try.prog 36 #[.string s, .int .i64 k] w fun e w' => e = .returned (.bool (isCm ((kx s).drop k))) ∧ w' = w := by
  rw [isCm_drop, kx_len]
  obtain ⟨n, Hn⟩ := nm s.size
  have hn := Hn.out
  obtain ⟨R, HRR⟩ := nm (decide (k + 1 < n ∧ ((kx s).getD k 0).toNat = 47 ∧ ((kx s).getD (k + 1) 0).toNat = 47))
  rw [hn, HRR.out]
  by_cases h0 : k + 1 < n
  · have f0 : decide ((k : Int) + 1 < (n : Int)) = true := decide_eq_true (by omega)
    have i1 := fun W => run_at_str Hn.out (show k < n by omega) W
    have i2 := fun W => run_at_str Hn.out h0 W
    rw [show ((k + 1 : Nat) : Int) = (k : Int) + 1 by omega] at i2
    generalize ((kx s).getD k 0).toNat = a at i1 HRR
    generalize ((kx s).getD (k + 1) 0).toNat = b at i2 HRR
    by_cases h1 : a = 47
    · have f1 : ((a : Int) == 47) = true := by rw [h1]; rfl
      obtain ⟨z, f2⟩ : ∃ z, ((b : Int) == 47) = z := ⟨_, rfl⟩
      obtain rfl : R = z := by
        rw [← HRR.out, ← f2, Bool.eq_iff_iff]
        simp only [beq_iff_eq, decide_eq_true_eq]
        omega
      clear h1 HRR Hn h0
      go_enter Try.func36, Try.ntmps36
      go_wp2_with fail
      go_ret
      exact ⟨rfl, rfl⟩
    · have f1 : ((a : Int) == 47) = false := by simp; omega
      obtain rfl : R = false := by rw [← HRR.out]; exact decide_eq_false (by omega)
      clear h1 HRR Hn h0 i2
      go_enter Try.func36, Try.ntmps36
      go_wp2_with fail
      go_ret
      exact ⟨rfl, rfl⟩
  · have f0 : decide ((k : Int) + 1 < (n : Int)) = false := decide_eq_false (by omega)
    obtain rfl : R = false := by rw [← HRR.out]; exact decide_eq_false (by omega)
    clear HRR Hn h0
    go_enter Try.func36, Try.ntmps36
    go_wp2_with fail
    go_ret
    exact ⟨rfl, rfl⟩

/-! Tokens as cells -/
def tcell (t : Tok) : List Value := [.string (kstr t.s), .int .i64 t.pos, .bool t.bad]
def tcells (L : List Tok) : List Value := L.flatMap tcell
theorem tcells_snoc (L : List Tok) (t : Tok) : tcells (L ++ [t]) = tcells L ++ [.string (kstr t.s), .int .i64 t.pos, .bool t.bad] := by simp [tcells, tcell]
theorem T_toks : SlT Try.prog 54 60 3 32 := by
  obtain ⟨i, h1, h2, h3, h4⟩ := info_parts (show (Try.prog.info? 60).map (fun i => (i.zero, i.size, i.bytes)) = some (some (.agg #[.string ⟨#[]⟩, .int .i64 0, .bool false]), 3, 32) from by kernel_rfl)
  exact ⟨Try.underlying54, ⟨i, _, h1, h2, h3, h4, rfl⟩, by omega⟩
theorem kstr_extract (s : ByteArray) (i j : Nat) : s.extract i j = kstr (((kx s).drop i).take (j - i)) := by
  apply kx_inj
  rw [kx_kstr]
  simp [kx, ByteArray.data_extract, Array.toList_extract, List.extract_eq_take_drop]
theorem run_sub_str {s : ByteArray} {n i j : Nat} (h : s.size = n) (hij : i ≤ j) (hj : j ≤ n) (w : World) : (Instr.slice 9 (.string s) (some (.int .i64 (i : Int))) (some (.int .i64 (j : Int))) none).run Try.prog w = .ok (.string (kstr (((kx s).drop i).take (j - i)))) w := by
  rw [run_slice_string_if w 9 s .i64 .i64 i j Try.underlying9, if_pos (by omega), if_pos (by omega), kstr_extract]
  simp only [Int.toNat_natCast]
theorem tokL_fuel : ∀ (f g : Nat) (l : Bs) (o : Nat), l.length < f → l.length < g → tokL f l o = tokL g l o := by
  intro f
  induction f with
  | zero => intro g l o h; omega
  | succ f ih =>
    intro g l o hf hg
    obtain ⟨g, rfl⟩ : ∃ g', g = g' + 1 := ⟨g - 1, by omega⟩
    match l with
    | [] => rfl
    | c :: r =>
      simp only [List.length_cons] at hf hg
      simp only [tokL]
      split
      · exact ih g r _ (by omega) (by omega)
      · rename_i hs
        split
        · rename_i hc
          have h1 : 1 ≤ clen (c :: r) := by
            unfold clen
            rw [if_neg (fun q => hs (by unfold isSp; exact decide_eq_true (by omega)))]
            omega
          exact ih g _ _ (by rw [List.length_drop, List.length_cons]; omega) (by rw [List.length_drop, List.length_cons]; omega)
        · rename_i hc
          split
          · rw [ih g r _ (by omega) (by omega)]
          · rename_i hp
            have h1 : 1 ≤ wlen (c :: r) := by
              unfold wlen
              simp only [Bool.or_eq_true, decide_eq_true_eq, not_or] at hp
              rw [if_pos (by
                simp only [wordCh, Bool.and_eq_true, decide_eq_true_eq, Bool.not_eq_true']
                exact ⟨⟨by omega, by simpa using hp.1.1⟩, by simpa using hc⟩)]
              omega
            rw [ih g _ _ (by rw [List.length_drop, List.length_cons]; omega) (by rw [List.length_drop, List.length_cons]; omega)]
theorem drop_cons {l : Bs} {k : Nat} (h : k < l.length) : l.drop k = l.getD k 0 :: l.drop (k + 1) := by
  rw [List.drop_eq_getElem_cons h, getD_of h]
theorem clen_step {l : Bs} {k : Nat} (h : k < l.length) : clen (l.drop k) = if (l.getD k 0).toNat = 10 then 0 else clen (l.drop (k + 1)) + 1 := by rw [drop_cons h]; rfl
theorem wlen_cons (c : UInt8) (r : Bs) : wlen (c :: r) = if wordCh c && !isCm (c :: r) then wlen r + 1 else 0 := rfl
theorem wlen_step {l : Bs} {k : Nat} (h : k < l.length) : wlen (l.drop k) = if wordCh (l.getD k 0) && !isCm (l.drop k) then wlen (l.drop (k + 1)) + 1 else 0 := by
  conv => lhs; rw [drop_cons h, wlen_cons, ← drop_cons h]

section
variable {s : Bs} {n k j : Nat}
theorem tok_sp (hn : s.length = n) (hk : k < n) (h : isSp (s.getD k 0) = true) : tokL (n - k + 1) (s.drop k) k = tokL (n - (k + 1) + 1) (s.drop (k + 1)) (k + 1) := by
  rw [drop_cons (by omega : k < s.length)]
  simp only [tokL, h, if_true]
  rw [show n - (k + 1) + 1 = n - k by omega]
theorem tok_cm (hn : s.length = n) (hk : k < n) (h1 : isSp (s.getD k 0) = false) (h2 : isCm (s.drop k) = true) (hkj : k ≤ j) (hj : clen (s.drop k) = j - k) :
    k < j ∧ tokL (n - k + 1) (s.drop k) k = tokL (n - j + 1) (s.drop j) j := by
  have hd := drop_cons (by omega : k < s.length)
  have hc : 1 ≤ clen (s.drop k) := by
    rw [hd]
    unfold clen
    rw [if_neg (fun q => by unfold isSp at h1; rw [decide_eq_false_iff_not] at h1; omega)]
    omega
  refine ⟨by omega, ?_⟩
  have e : (s.drop k).drop (clen (s.drop k)) = s.drop j := by rw [List.drop_drop, hj]; congr 1; omega
  have e2 : tokL (n - k + 1) (s.drop k) k = tokL (n - k) ((s.drop k).drop (clen (s.drop k))) (k + clen (s.drop k)) := by
    rw [hd] at h2 ⊢
    simp only [tokL, h1, h2, Bool.false_eq_true, if_false, if_true]
  rw [e2, e, hj, show k + (j - k) = j by omega]
  exact tokL_fuel _ _ _ _ (by rw [List.length_drop]; omega) (by rw [List.length_drop]; omega)
theorem tok_pn (hn : s.length = n) (hk : k < n) (h1 : isSp (s.getD k 0) = false) (h2 : isCm (s.drop k) = false) (h3 : (isPn (s.getD k 0) || decide ((s.getD k 0).toNat < 33) || decide (126 < (s.getD k 0).toNat)) = true) :
    tokL (n - k + 1) (s.drop k) k = ⟨[s.getD k 0], k, !isPn (s.getD k 0)⟩ :: tokL (n - (k + 1) + 1) (s.drop (k + 1)) (k + 1) := by
  rw [drop_cons (by omega : k < s.length)] at h2 ⊢
  simp only [tokL, h1, h2, h3, Bool.false_eq_true, if_false, if_true]
  rw [show n - (k + 1) + 1 = n - k by omega]
theorem tok_wd (hn : s.length = n) (hk : k < n) (h1 : isSp (s.getD k 0) = false) (h2 : isCm (s.drop k) = false) (h3 : (isPn (s.getD k 0) || decide ((s.getD k 0).toNat < 33) || decide (126 < (s.getD k 0).toNat)) = false) (hkj : k ≤ j) (hj : wlen (s.drop k) = j - k) :
    k < j ∧ tokL (n - k + 1) (s.drop k) k = ⟨(s.drop k).take (j - k), k, false⟩ :: tokL (n - j + 1) (s.drop j) j := by
  have hks : k < s.length := by omega
  have hc : 1 ≤ wlen (s.drop k) := by
    rw [wlen_step hks, h2]
    simp only [Bool.or_eq_false_iff, decide_eq_false_iff_not] at h3
    rw [if_pos (by
      simp only [wordCh, Bool.and_eq_true, decide_eq_true_eq, Bool.not_eq_true', Bool.not_false, and_true]
      exact ⟨⟨by omega, by omega⟩, h3.1.1⟩)]
    omega
  refine ⟨by omega, ?_⟩
  have e : (s.drop k).drop (wlen (s.drop k)) = s.drop j := by rw [List.drop_drop, hj]; congr 1; omega
  have e2 : tokL (n - k + 1) (s.drop k) k = ⟨(s.drop k).take (wlen (s.drop k)), k, false⟩ :: tokL (n - k) ((s.drop k).drop (wlen (s.drop k))) (k + wlen (s.drop k)) := by
    have hd := drop_cons hks
    rw [hd] at h2 ⊢
    simp only [tokL, h1, h2, h3, Bool.false_eq_true, if_false]
  rw [e2, e, hj, show k + (j - k) = j by omega]
  congr 1
  exact tokL_fuel _ _ _ _ (by rw [List.length_drop]; omega) (by rw [List.length_drop]; omega)
theorem tok_end (hn : s.length = n) : tokL (n - n + 1) (s.drop n) n = [⟨[], n, true⟩] := by
  rw [List.drop_of_length_le (by omega)]
  simp only [tokL]
theorem clen_end (hn : s.length = n) : clen (s.drop n) = 0 := by rw [List.drop_of_length_le (by omega)]; rfl
theorem wlen_end (hn : s.length = n) : wlen (s.drop n) = 0 := by rw [List.drop_of_length_le (by omega)]; rfl
end
end Go.Proofs.Ytblkgjdhaibhgaa
