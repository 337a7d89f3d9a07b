/-
  Axioms walked; Parse without a condition.
-/
import Derived.Test.YtblkgjdhaibhgaaAxmD
import Derived.Test.YtblkgjdhaibhgaaPrtF
namespace Go.Proofs.Ytblkgjdhaibhgaa
open Go.RowKit

/-- Parse, whatever the text. -/
theorem rParse_all (s : ByteArray) (w : World) : Calls Try.prog 7 #[.string s] w (ParseP (parseF (kx s)) w) :=
  rParse_c axiomF axiomF_sz s (fun _ q w => rAxiom_c q w) w
def nmCs (l : List (Bs × Bs)) : List Value := l.map fun x => .string (kstr x.1)
theorem nmCs_snoc (l : List (Bs × Bs)) (x : Bs × Bs) : nmCs (l ++ [x]) = nmCs l ++ [.string (kstr x.1)] := by simp [nmCs]
theorem T_strs : SlT Try.prog 35 9 1 16 := by
  obtain ⟨i, h1, h2, h3, h4⟩ := info_parts (show (Try.prog.info? 9).map (fun i => (i.zero, i.size, i.bytes)) = some (some (.string ⟨#[]⟩), 1, 16) from by kernel_rfl)
  exact ⟨Try.underlying35, ⟨i, _, h1, h2, h3, h4, rfl⟩, by omega⟩
set_option maxRecDepth 100000 in
set_option maxHeartbeats 1000000 in
theorem rAxioms_c (w : World) : Calls Try.prog 9 #[] w fun e w' => ∃ (A : Option Addr) (c : Nat), e = .returned (.slice A 22 c) ∧ Own w' 9 1 A 22 c (nmCs axL) ∧ (∀ k, At A k → w.heap.size ≤ k) ∧ Upd Non w w' := by
  have CA := Lib.hid (raxioms_c w)
  go_enter Try.func9, Try.ntmps9
  go_wp2_with fail
  refine CA.out.mono ?_
  rintro e w2 ⟨rfl, hbt, hu2⟩
  have HT := Lib.hid hbt
  have HU2 := Lib.hid hu2
  have hs2 := hu2.size
  clear hbt hu2 CA
  go_wp2_with fail
  go_loopg [1, 3, 6] 22 (fun g v _ iv wr => ∃ (j : Nat) (A : Option Addr) (c : Nat), Hid (g = 22 - j) ∧ j ≤ 22 ∧ iv = .int .i64 j ∧ v = .slice A j c ∧ Hid (Own wr 9 1 A j c (nmCs (axL.take j))) ∧ Hid (∀ k, At A k → w2.heap.size ≤ k) ∧ Hid (Upd Non w2 wr))
  case atStart => exact ⟨0, none, 0, rfl, Nat.zero_le _, rfl, rfl, Own.none_, fun _ q => (At.none_ q).elim, Upd.refl⟩
  case round =>
    obtain ⟨j, A, c, Hg, hj, rfl, rfl, HO, HA, HU⟩ := hrel
    have hb := HT.out.upd HU.out (fun f => f)
    by_cases hlt : j < 22
    · have hal : j < axL.length := hlt
      obtain ⟨k0, k1⟩ := axCs_get hal
      have c0 : wr.cell? ⟨w.heap.size, j * 2, none⟩ = some (.string (kstr axL[j].1)) := by rw [hb.cell]; simpa using k0
      have c1 : wr.cell? ⟨w.heap.size, j * 2 + 1, none⟩ = some (.string (kstr axL[j].2)) := by rw [hb.cell]; simpa using k1
      have HTK : Hid (axL.take (j + 1) = axL.take j ++ [axL[j]]) := take_snoc' hal
      generalize axL[j] = xx at *
      obtain ⟨qa, Hqa⟩ := nm (kstr xx.1)
      obtain ⟨qb, Hqb⟩ := nm (kstr xx.2)
      rw [Hqa.out] at c0
      rw [Hqb.out] at c1
      have hsl := HU.out.size
      obtain ⟨W3, HW3⟩ := nm (wr.alloc (.cells #[.string qa, .string qb] 49))
      have e3 := HW3.out
      have u3 : Upd Non wr W3 := by rw [← e3]; exact Upd.refl.alloc _
      have b3 : Blk W3 wr.heap.size 49 #[.string qa, .string qb] := by rw [← e3]; exact Blk.new _ _ _
      have z0 := b3.cell 0
      have hs3 := u3.size
      have hoA := Own.upd HO.out u3 (fun _ _ f => f)
      have HU3 := Lib.hid (HU.out.then_non u3)
      clear k0 k1 hb b3 u3
      go_wp2_with (at_builtin; refine wpList_app rfl rfl T_strs rfl (hoA.alloc _) rfl (Sl.new _ _ _) rfl (by simp [Value.oneCell']) (by simp only [maxLen]; omega) (by omega) ?_; intro A4 c4 w4 ho4 hu4 hat4)
      have HU4 : Hid (Upd Non w2 w4) := (HU3.out.alloc _).trans hu4 (fun k hk e => by have := HA.out k e; omega)
      have HA4 : Hid (∀ k, At A4 k → w2.heap.size ≤ k) := fun k hk => by
        rcases hat4 k hk with q | q
        · exact HA.out k q
        · simp at q; omega
      have HO4 : Hid (Own w4 9 1 A4 (j + 1) c4 (nmCs (axL.take (j + 1)))) := by
        show Own _ _ _ _ _ _ _
        rw [HTK.out, nmCs_snoc, Hqa.out]
        exact ho4
      clear ho4 hu4 hat4 hoA
      go_roundg (22 - (j + 1))
      case measure => rw [Hg.out]; omega
      case rel => exact ⟨j + 1, A4, c4, rfl, by omega, by go_num, rfl, HO4.out, HA4.out, HU4.out⟩
    · obtain rfl : j = 22 := by omega
      clear hb
      have hO := HO.out
      rw [List.take_of_length_le (show axL.length ≤ 22 from Nat.le_refl _)] at hO
      have HO2 := Lib.hid hO
      clear hO
      go_wp2_with fail
      go_ret
      exact ⟨A, c, rfl, HO2.out, fun k hk => by have := HA.out k hk; omega, HU2.out.then_non HU.out⟩
end Go.Proofs.Ytblkgjdhaibhgaa
