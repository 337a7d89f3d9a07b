/-
  What fullingref10.SameInts does: it compares two lists.
-/
import Derived.Test.YtigambcefdeaoaaProg
import Derived.Test.YtigambcefdeaoaaViews
namespace Go.Proofs.Ytigambcefdeaoaa
open Go.RowKit

set_option maxHeartbeats 400000 in
theorem sameInts_c (w : World) (F G : Nat → Prop) (A B : Option Addr) (c d : Nat) (xs ys : List Int) (hx : Ints w F A xs) (hy : Ints w G B ys) (hl : xs.length ≤ 1000000000000) :
    Calls Try.prog 33 #[.slice A xs.length c, .slice B ys.length d] w fun e w' => e = .returned (.bool (decide (xs = ys))) ∧ ∃ n, w' = w.drewN n := by
  by_cases hne : xs.length = ys.length
  · have HN := Lib.hid hne
    rw [← hne]
    clear hne
    go_enter Try.func33, Try.ntmps33
    go_wp2_with fail
    go_loopg [5] xs.length (fun g i wr => ∃ k n : Nat, Hid (g = xs.length - k) ∧ k ≤ xs.length ∧ i = .int .i64 k ∧ Hid (xs.take k = ys.take k) ∧ wr = w.drewN n)
    case atStart => exact ⟨0, 0, rfl, by omega, rfl, rfl, rfl⟩
    case round =>
      obtain ⟨k, n, Hg, hk, rfl, Hp, rfl⟩ := hrel
      by_cases hlt : k < xs.length
      · have hlt2 : k < ys.length := by rw [← HN.out]; exact hlt
        obtain ⟨b1, o1, rfl, _, _, h1⟩ := hx.at_ hlt
        obtain ⟨b2, o2, rfl, _, _, h2⟩ := hy.at_ hlt2
        have HT := Lib.hid (List.take_succ_eq_append_getElem hlt)
        have HT2 := Lib.hid (List.take_succ_eq_append_getElem hlt2)
        have HNE : Hid (xs[k] ≠ ys[k] → decide (xs = ys) = false) := by
          intro h; rw [decide_eq_false_iff_not]; rintro rfl; exact h rfl
        generalize xs[k] = x at *
        generalize ys[k] = y at *
        by_cases he : x = y
        · subst he
          go_wp2_with fail
          go_quiet (fail)
          go_wp2_with fail
          go_roundg (xs.length - (k + 1))
          case measure => rw [Hg.out]; omega
          case rel => exact ⟨k + 1, _, rfl, by omega, by go_num, by show _ = _; rw [HT.out, HT2.out, Hp.out], rfl⟩
        · have hf := Lib.hid (HNE.out he)
          have hb : (x != y) = true := by simp [he]
          clear he
          go_wp2_with fail
          go_quiet (fail)
          go_wp2_with fail
          go_ret
          exact ⟨by rw [hf.out]; rfl, _, World.drewN_drewN _ _ _⟩
      · obtain rfl : xs.length = k := by omega
        go_wp2_with fail
        go_ret
        have : xs = ys := by
          have := Hp.out
          rw [List.take_length, HN.out, List.take_length] at this
          exact this
        exact ⟨by simp [this], _, rfl⟩
  · have hd : decide (xs = ys) = false := by rw [decide_eq_false_iff_not]; rintro rfl; exact hne rfl
    have HD := Lib.hid hd
    have hb : ((xs.length : Int) != (ys.length : Int)) = true := by simp; omega
    clear hd hne
    go_enter Try.func33, Try.ntmps33
    go_wp2_with fail
    go_ret
    exact ⟨by rw [HD.out]; rfl, 0, rfl⟩
end Go.Proofs.Ytigambcefdeaoaa
