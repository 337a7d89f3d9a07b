/-
  What the reader's Next does.
-/
import Derived.Test.YtnefhokojbkppaaGe
import Derived.StillTailTactics
namespace Go.Proofs.Ytnefhokojbkppaa
open Go.RowKit

set_option maxRecDepth 100000 in
set_option maxHeartbeats 1000000 in
theorem next_c (w : World) (p : Nat) (A : Option Addr) (c : Nat) (xs : List Int) (lp : Value) (F : Nat → Prop) (hF : ∀ k, F k → k ≠ p) (hb : Blk w p 54 #[.slice A xs.length c, lp]) (hx : Ints w F A xs) (hc : xs.length ≤ c) :
    Calls Try.prog 34 #[.pointer (some ⟨p, 0, none⟩)] w fun e w' => e = .returned (.int .i64 (xs.headD 0)) ∧ ∃ A' c', Blk w' p 54 #[.slice A' xs.tail.length c', lp] ∧ Ints w' F A' xs.tail ∧ xs.tail.length ≤ c' ∧ Upd (· = p) w w' := by
  have c0 := hb.cell 0
  cases xs with
  | nil =>
    go_enter Try.func34, Try.ntmps34
    go_wp2_with fail
    go_ret
    exact ⟨rfl, A, c, hb, Ints.nil, hc, Upd.refl⟩
  | cons x xs =>
    obtain ⟨b, o, rfl, hFb, _, h1⟩ := hx.at_ (k := 0) (by simp)
    rw [Nat.add_zero] at h1
    simp only [List.getElem_cons_zero] at h1
    have f0 := hb.frozen 0
    have hc' : xs.length + 1 ≤ c := by simpa using hc
    have hne := hF b hFb
    by_cases hc1 : c = 1
    · subst hc1
      obtain rfl : xs = [] := List.eq_nil_of_length_eq_zero (by omega)
      go_enter Try.func34, Try.ntmps34
      go_wp2_with fail
      go_ret
      have hb2 := hb.set_ 0 (.slice (some ⟨b, o, none⟩) 0 0)
      refine ⟨rfl, some ⟨b, o, none⟩, 0, ?_, Ints.nil, by simp, Upd.refl.setCell (S := (· = p)) (p := ⟨p, 0, none⟩) (.inl rfl) _⟩
      simpa using hb2
    · have hb2 := hb.set_ 0 (.slice (some ⟨b, o + 1, none⟩) xs.length (c - 1))
      have hx2 := hx.upd (Upd.refl.setCell (p := ⟨p, 0, none⟩) (S := (· = p)) (.inl rfl) (.slice (some ⟨b, o + 1, none⟩) xs.length (c - 1))) (fun k _ h => hF k h)
      have d : ((c : Int) == 1) = false := by simp; omega
      have HX : Hid (Ints (w.setCell ⟨p, 0, none⟩ (.slice (some ⟨b, o + 1, none⟩) xs.length (c - 1))) F (some ⟨b, o + 1, none⟩) xs) := by
        refine .inr ⟨b, o + 1, rfl, hFb, fun j hj => ?_⟩
        have hj' : j < xs.length := by simpa using hj
        obtain ⟨b', o', e, _, _, hc⟩ := hx2.at_ (k := j + 1) (by simpa using hj')
        injection e with e; injection e with e1 e2; subst e1; subst e2
        rw [Nat.add_assoc, Nat.add_comm 1 j, hc]
        simp
      clear hx2 hx
      go_enter Try.func34, Try.ntmps34
      go_wp2_with fail
      go_ret
      refine ⟨rfl, some ⟨b, o + 1, none⟩, c - 1, ?_, HX.out, by simp; omega, Upd.refl.setCell (S := (· = p)) (p := ⟨p, 0, none⟩) (.inl rfl) _⟩
      simpa using hb2

end Go.Proofs.Ytnefhokojbkppaa
