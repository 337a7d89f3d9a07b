/-
  What congruence.appendUint64 does: it appends the eight bytes of a word to a slice that the caller owns.
-/
import Derived.Test.YtlehiklgbladoaaProg
import Derived.Test.YtlehiklgbladoaaBase
namespace Go.Proofs.Ytlehiklgbladoaa
open Go.RowKit

theorem T_bytes : SlT Try.prog 62 5 1 1 := by
  obtain ⟨i, h1, h2, h3, h4⟩ := info_parts (show (Try.prog.info? 5).map (fun i => (i.zero, i.size, i.bytes)) = some (some (.int .u8 0), 1, 1) from by kernel_rfl)
  exact ⟨Try.underlying62, ⟨i, _, h1, h2, h3, h4, rfl⟩, by omega⟩

/-- Byte number k of a word. -/
def byteAt (x : Int) (k : Nat) : Int := x / 2 ^ (8 * k) % 256
def bytesTo (x : Int) (k : Nat) : List Value := (List.range k).map fun j => Value.int .u8 (byteAt x j)

set_option maxHeartbeats 400000 in
theorem appendU_c (A : Option Addr) (n c : Nat) (bs : List Value) (x : Int) (w : World) (h : Own w 5 1 A n c bs) (hn : n + 8 ≤ 140737488355328) :
    Calls Try.prog 31 #[.slice A n c, .int .u64 x] w fun e w' => ∃ A' c', e = .returned (.slice A' (n + 8) c') ∧ Own w' 5 1 A' (n + 8) c' (bs ++ bytesTo x 8) ∧ Upd (At A) w w' ∧ ∀ k, At A' k → At A k ∨ w.heap.size ≤ k := by
  go_enter Try.func31, Try.ntmps31
  go_wp2
  go_loopw [0, 5] (fun v i wr => ∃ (k : Nat) (A' : Option Addr) (c' : Nat), k ≤ 8 ∧ i = .int .i64 k ∧ v = .slice A' (n + k) c' ∧ Own wr 5 1 A' (n + k) c' (bs ++ bytesTo x k) ∧ Upd (At A) w wr ∧ ∀ j, At A' j → At A j ∨ w.heap.size ≤ j) (fun _ i _ => 8 - (intOf i).toNat)
  case atStart => exact ⟨0, A, c, by omega, rfl, rfl, by simpa [bytesTo] using h, Upd.refl, fun j hj => .inl hj⟩
  case round =>
    obtain ⟨k, A1, c1, hk, rfl, rfl, ho, hu, hat⟩ := hrel
    have Hat := Lib.hid hat
    clear hat
    by_cases hlt : k < 8
    · go_wp2_with (at_builtin; refine wpList_app rfl rfl T_bytes rfl (ho.alloc _) rfl (Sl.new _ _ _) rfl (by simp [Value.oneCell']) (by simp only [maxLen]; omega) (by omega) ?_; intro A2 c2 w2 ho2 hu2 hat2)
      have hsn : bytesTo x (k + 1) = bytesTo x k ++ [Value.int IntKind.u8 (x / 2 ^ (8 * k) % 256)] := by simp [bytesTo, List.range_succ, byteAt]
      refine ⟨⟨k + 1, A2, c2, by omega, by go_num, rfl, ?_, (hu.alloc _).trans hu2 (fun i hi hA => ?_), fun j hj => ?_⟩, by simp [intOf]; omega⟩
      · rw [hsn, ← List.append_assoc]; exact ho2
      · rcases Hat.out i hA with h | h
        · exact h
        · omega
      · rcases hat2 j hj with h | h
        · exact Hat.out j h
        · right; have := hu.size; simp at h; omega
    · obtain rfl : k = 8 := by omega
      go_wp2
      go_ret
      exact ⟨A1, c1, rfl, ho, hu, Hat.out⟩
end Go.Proofs.Ytlehiklgbladoaa
