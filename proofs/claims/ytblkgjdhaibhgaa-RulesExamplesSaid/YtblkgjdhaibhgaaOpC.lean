/-
  What term.Op, rules.arity and rules.hasImm do.
-/
import Derived.Test.YtblkgjdhaibhgaaWdC
namespace Go.Proofs.Ytblkgjdhaibhgaa
open Go.RowKit

def sCells (L : List Bs) : List Value := L.map fun s => Value.string (kstr s)
theorem Sl.new' (w : World) (t : TypeId) (cs : List Value) {a : Array Value} (h : a = cs.toArray) : Sl (w.alloc (.cells a t)) (fun _ => True) (some ⟨w.heap.size, 0, none⟩) cs := by
  subst h
  exact (Sl.new w t cs).mono (fun _ _ _ => trivial)
theorem nameL_len : nameL.length = 28 := rfl
set_option maxRecDepth 100000 in
theorem tnames_c (w : World) : Calls Try.prog 76 #[] w fun e w' => e = .returned (.slice (some ⟨w.heap.size, 0, none⟩) 28 28) ∧ Sl w' (fun _ => True) (some ⟨w.heap.size, 0, none⟩) (sCells nameL) ∧ Upd Non w w' := by
  go_enter Try.func76, Try.ntmps76
  go_wp2_with fail
  go_ret
  exact ⟨rfl, Sl.new' w _ _ rfl, Upd.refl.alloc _⟩
theorem findL_step {l : List Bs} {k : Nat} (h : k < l.length) (s : Bs) (i : Nat) : findL (l.drop k) s i = if l[k] = s then some i else findL (l.drop (k + 1)) s (i + 1) := by
  rw [List.drop_eq_getElem_cons h]; rfl
set_option maxRecDepth 100000 in
set_option maxHeartbeats 1000000 in
theorem tOp_c (s : Bs) (w : World) : Calls Try.prog 88 #[.string (kstr s)] w fun e w' => e = .returned (.tuple #[.int .i64 ((opF s).getD 0), .bool (opF s).isSome]) ∧ Upd Non w w' := by
  have C := Lib.hid (tnames_c w)
  have HO : Hid (opF s = (findL nameL s 0).map (4 + ·)) := rfl
  obtain ⟨r, Hr⟩ := nm (opF s)
  rw [Hr.out] at HO
  rw [Hr.out]
  obtain ⟨z1, Hz1⟩ := nm (r.getD 0)
  obtain ⟨z2, Hz2⟩ := nm r.isSome
  rw [Hz1.out, Hz2.out]
  obtain ⟨str, Hstr⟩ := nm (kstr s)
  rw [Hstr.out]
  go_enter Try.func88, Try.ntmps88
  go_wp2_with fail
  refine C.out.mono ?_
  rintro e W ⟨rfl, hs, hu⟩
  clear C
  go_wp2_with fail
  obtain ⟨A, HA⟩ := nm (some (⟨w.heap.size, 0, none⟩ : Addr))
  rw [HA.out] at hs ⊢
  go_loopg [8] 28 (fun g i wr => ∃ k : Nat, Hid (g = 28 - k) ∧ k ≤ 28 ∧ i = .int .i64 k ∧ Hid (findL nameL s 0 = findL (nameL.drop k) s k) ∧ wr = W)
  case atStart => exact ⟨0, rfl, by omega, rfl, rfl, rfl⟩
  case round =>
    obtain ⟨k, Hg, hk, rfl, HK, hw⟩ := hrel
    subst hw
    by_cases hlt : k < 28
    · have ti : decide ((k : Int) < 28) = true := decide_eq_true (by omega)
      have hkl : k < nameL.length := hlt
      obtain ⟨b, o, rfl, _, _, hc⟩ := hs.at_ (k := k) (by simpa [sCells] using hkl)
      have HF := Lib.hid (findL_step hkl s k)
      have hc2 : wr.cell? ⟨b, o + k, none⟩ = some (.string (kstr nameL[k])) := by rw [hc]; simp [sCells]
      generalize nameL[k] = nk at hc2 HF
      have hq : ((kstr nk).toList == str.toList) = decide (nk = s) := by rw [← Hstr.out, str_beq]
      obtain ⟨nks, Hnks⟩ := nm (kstr nk)
      rw [Hnks.out] at hc2 hq
      clear hc hs
      by_cases he : nk = s
      · rw [decide_eq_true he] at hq
        have HR : Hid (r = some (4 + k)) := by show _ = _; rw [HO.out, HK.out, HF.out, if_pos he]; rfl
        clear he HF HK HO
        go_wp2_with fail
        go_ret2
        exact ⟨by rw [← Hz1.out, ← Hz2.out, HR.out]; rfl, hu⟩
      · rw [decide_eq_false he] at hq
        have HK2 : Hid (findL nameL s 0 = findL (nameL.drop (k + 1)) s (k + 1)) := by show _ = _; rw [HK.out, HF.out, if_neg he]
        clear he HF HK
        go_wp2_with fail
        go_roundg (28 - (k + 1))
        case measure => rw [Hg.out]; omega
        case rel => exact ⟨k + 1, rfl, by omega, by go_num, HK2, rfl⟩
    · obtain rfl : k = 28 := by omega
      have HR : Hid (r = none) := by show _ = _; rw [HO.out, HK.out, List.drop_of_length_le (by rw [nameL_len]; exact Nat.le_refl _)]; rfl
      clear HK HO
      go_wp2_with fail
      go_ret2
      exact ⟨by rw [← Hz1.out, ← Hz2.out, HR.out]; rfl, hu⟩
set_option maxHeartbeats 1000000 in
theorem rArity_c (op : Int) (w : World) : Calls Try.prog 80 #[.int .i64 op] w fun e w' => e = .returned (.tuple #[.int .i64 ((arF op).getD 0), .bool (arF op).isSome]) ∧ w' = w := by
  have HA : Hid (arF op = if op = 24 ∨ op = 20 ∨ op = 21 then some 1 else if op = 22 ∨ op = 28 then some 3 else if (4 ≤ op ∧ op ≤ 23) ∨ op = 27 ∨ op = 29 then some 2 else none) := rfl
  obtain ⟨r, Hr⟩ := nm (arF op)
  rw [Hr.out] at HA
  rw [Hr.out]
  obtain ⟨z1, Hz1⟩ := nm (r.getD 0)
  obtain ⟨z2, Hz2⟩ := nm r.isSome
  rw [Hz1.out, Hz2.out]
  by_cases h24 : op = 24
  · have f24 : (op == 24) = true := by rw [h24]; rfl
    have HR : Hid (r = some 1) := by show _ = _; rw [HA.out, if_pos (by omega)]
    clear HA
    go_enter Try.func80, Try.ntmps80
    go_wp2_with fail
    go_ret2
    exact ⟨by rw [← Hz1.out, ← Hz2.out, HR.out]; rfl, rfl⟩
  · have f24 : (op == 24) = false := by simpa using h24
    by_cases h20 : op = 20
    · have f20 : (op == 20) = true := by rw [h20]; rfl
      have HR : Hid (r = some 1) := by show _ = _; rw [HA.out, if_pos (by omega)]
      clear HA
      go_enter Try.func80, Try.ntmps80
      go_wp2_with fail
      go_ret2
      exact ⟨by rw [← Hz1.out, ← Hz2.out, HR.out]; rfl, rfl⟩
    · have f20 : (op == 20) = false := by simpa using h20
      by_cases h21 : op = 21
      · have f21 : (op == 21) = true := by rw [h21]; rfl
        have HR : Hid (r = some 1) := by show _ = _; rw [HA.out, if_pos (by omega)]
        clear HA
        go_enter Try.func80, Try.ntmps80
        go_wp2_with fail
        go_ret2
        exact ⟨by rw [← Hz1.out, ← Hz2.out, HR.out]; rfl, rfl⟩
      · have f21 : (op == 21) = false := by simpa using h21
        by_cases h22 : op = 22
        · have f22 : (op == 22) = true := by rw [h22]; rfl
          have HR : Hid (r = some 3) := by show _ = _; rw [HA.out, if_neg (by omega), if_pos (by omega)]
          clear HA
          go_enter Try.func80, Try.ntmps80
          go_wp2_with fail
          go_ret2
          exact ⟨by rw [← Hz1.out, ← Hz2.out, HR.out]; rfl, rfl⟩
        · have f22 : (op == 22) = false := by simpa using h22
          by_cases h28 : op = 28
          · have f28 : (op == 28) = true := by rw [h28]; rfl
            have HR : Hid (r = some 3) := by show _ = _; rw [HA.out, if_neg (by omega), if_pos (by omega)]
            clear HA
            go_enter Try.func80, Try.ntmps80
            go_wp2_with fail
            go_ret2
            exact ⟨by rw [← Hz1.out, ← Hz2.out, HR.out]; rfl, rfl⟩
          · have f28 : (op == 28) = false := by simpa using h28
            by_cases g1 : 4 ≤ op
            · have e1 : decide ((4 : Int) ≤ op) = true := decide_eq_true g1
              by_cases g2 : op ≤ 23
              · have e2 : decide (op ≤ (23 : Int)) = true := decide_eq_true g2
                have HR : Hid (r = some 2) := by show _ = _; rw [HA.out, if_neg (by omega), if_neg (by omega), if_pos (by omega)]
                clear HA
                go_enter Try.func80, Try.ntmps80
                go_wp2_with fail
                go_ret2
                exact ⟨by rw [← Hz1.out, ← Hz2.out, HR.out]; rfl, rfl⟩
              · have e2 : decide (op ≤ (23 : Int)) = false := decide_eq_false g2
                by_cases h27 : op = 27
                · have f27 : (op == 27) = true := by rw [h27]; rfl
                  have HR : Hid (r = some 2) := by show _ = _; rw [HA.out, if_neg (by omega), if_neg (by omega), if_pos (by omega)]
                  clear HA
                  go_enter Try.func80, Try.ntmps80
                  go_wp2_with fail
                  go_ret2
                  exact ⟨by rw [← Hz1.out, ← Hz2.out, HR.out]; rfl, rfl⟩
                · have f27 : (op == 27) = false := by simpa using h27
                  by_cases h29 : op = 29
                  · have f29 : (op == 29) = true := by rw [h29]; rfl
                    have HR : Hid (r = some 2) := by show _ = _; rw [HA.out, if_neg (by omega), if_neg (by omega), if_pos (by omega)]
                    clear HA
                    go_enter Try.func80, Try.ntmps80
                    go_wp2_with fail
                    go_ret2
                    exact ⟨by rw [← Hz1.out, ← Hz2.out, HR.out]; rfl, rfl⟩
                  · have f29 : (op == 29) = false := by simpa using h29
                    have HR : Hid (r = none) := by show _ = _; rw [HA.out, if_neg (by omega), if_neg (by omega), if_neg (by omega)]
                    clear HA
                    go_enter Try.func80, Try.ntmps80
                    go_wp2_with fail
                    go_ret2
                    exact ⟨by rw [← Hz1.out, ← Hz2.out, HR.out]; rfl, rfl⟩
            · have e1 : decide ((4 : Int) ≤ op) = false := decide_eq_false g1
              have f27 : (op == 27) = false := by simp; omega
              have f29 : (op == 29) = false := by simp; omega
              have HR : Hid (r = none) := by show _ = _; rw [HA.out, if_neg (by omega), if_neg (by omega), if_neg (by omega)]
              clear HA
              go_enter Try.func80, Try.ntmps80
              go_wp2_with fail
              go_ret2
              exact ⟨by rw [← Hz1.out, ← Hz2.out, HR.out]; rfl, rfl⟩
theorem rHasImm_c (op : Int) (w : World) : Calls Try.prog 53 #[.int .i64 op] w fun e w' => e = .returned (.bool (immOp op)) ∧ w' = w := by
  have HA : Hid (immOp op = decide (op = 23 ∨ op = 27 ∨ op = 28)) := rfl
  obtain ⟨r, Hr⟩ := nm (immOp op)
  rw [Hr.out] at HA
  rw [Hr.out]
  by_cases h1 : op = 23
  · have f1 : (op == 23) = true := by rw [h1]; rfl
    obtain rfl : r = true := by rw [HA.out]; exact decide_eq_true (by omega)
    go_enter Try.func53, Try.ntmps53
    go_wp2_with fail
    go_ret
    exact ⟨rfl, rfl⟩
  · have f1 : (op == 23) = false := by simpa using h1
    by_cases h2 : op = 27
    · have f2 : (op == 27) = true := by rw [h2]; rfl
      obtain rfl : r = true := by rw [HA.out]; exact decide_eq_true (by omega)
      go_enter Try.func53, Try.ntmps53
      go_wp2_with fail
      go_ret
      exact ⟨rfl, rfl⟩
    · have f2 : (op == 27) = false := by simpa using h2
      obtain ⟨b, f3⟩ : ∃ b, (op == 28) = b := ⟨_, rfl⟩
      obtain rfl : r = b := by
        rw [HA.out, ← f3, Bool.eq_iff_iff, beq_iff_eq, decide_eq_true_eq]; omega
      go_enter Try.func53, Try.ntmps53
      go_wp2_with fail
      go_ret
      exact ⟨rfl, rfl⟩
end Go.Proofs.Ytblkgjdhaibhgaa
