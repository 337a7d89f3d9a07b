/-
  What fullinglaw11.pairs does: it makes pairs out of seeds.
-/
import Derived.Test.YtlehiklgbladoaaNodes
import Derived.Deep.RegionHeld3
import Derived.IntWalk
namespace Go.Proofs.Ytlehiklgbladoaa
open Go.RowKit

def pairAt (m : List Int) (n : Int) (k : Nat) : Int × Int := (m.getD (2 * k) 0 % (n + 2) - 1, m.getD (2 * k + 1) 0 % (n + 2) - 1)
def pairsTo (m : List Int) (n : Int) (k : Nat) : List (Int × Int) := (List.range k).map (pairAt m n)
def pairsF (m : List Int) (n : Int) : List (Int × Int) := pairsTo m n (min (m.length / 2) 6)
theorem pairsTo_succ (m : List Int) (n : Int) (k : Nat) : pairsTo m n (k + 1) = pairsTo m n k ++ [pairAt m n k] := by simp [pairsTo, List.range_succ]
theorem pairsTo_len (m : List Int) (n : Int) (k : Nat) : (pairsTo m n k).length = k := by simp [pairsTo]
def pcells (ps : List (Int × Int)) : List Value := ps.flatMap fun p => [Value.int .i64 p.1, Value.int .i64 p.2]
theorem pcells_snoc (ps : List (Int × Int)) (p : Int × Int) : pcells (ps ++ [p]) = pcells ps ++ [.int .i64 p.1, .int .i64 p.2] := by simp [pcells]
theorem pcells_get : ∀ (ps : List (Int × Int)) (i : Nat) (h : i < ps.length), (pcells ps)[i * 2]? = some (.int .i64 ps[i].1) ∧ (pcells ps)[i * 2 + 1]? = some (.int .i64 ps[i].2)
  | p :: ps, 0, _ => ⟨rfl, rfl⟩
  | p :: ps, i + 1, h => by
    have ih := pcells_get ps i (by simpa using h)
    have e : (i + 1) * 2 = i * 2 + 1 + 1 := by omega
    rw [e]
    exact ih
theorem T_pairs : SlT Try.prog 29 28 2 16 := by
  obtain ⟨i, h1, h2, h3, h4⟩ := info_parts (show (Try.prog.info? 28).map (fun i => (i.zero, i.size, i.bytes)) = some (some (.agg #[.int .i64 0, .int .i64 0]), 2, 16) from by kernel_rfl)
  exact ⟨Try.underlying29, ⟨i, _, h1, h2, h3, h4, rfl⟩, by omega⟩
theorem Own.pairs {w : World} {A : Option Addr} {n c : Nat} {ps : List (Int × Int)} (h : Own w 28 2 A n c (pcells ps)) : PairsV w (At A) A ps := by
  rcases h.sl with h0 | ⟨b, off, e, hF, hc⟩
  · cases ps with
    | nil => exact .inl rfl
    | cons p ps => simp [pcells] at h0
  · refine .inr ⟨b, off, e, hF, fun i hi => ?_⟩
    obtain ⟨h1, h2⟩ := pcells_get ps i hi
    obtain ⟨l1, e1⟩ := List.getElem?_eq_some_iff.1 h1
    obtain ⟨l2, e2⟩ := List.getElem?_eq_some_iff.1 h2
    exact ⟨by rw [hc _ l1, e1], by rw [Nat.add_assoc, hc _ l2, e2]⟩

set_option maxHeartbeats 2000000 in
theorem pairs_c (w : World) (F : Nat → Prop) (MA : Option Addr) (mc n : Nat) (m : List Int) (hm : Ints w F MA m) (hl : m.length ≤ 1000000000000000) (hn : n ≤ 1000000) :
    Calls Try.prog 13 #[.slice MA m.length mc, .int .i64 n] w fun e w' => ∃ A c, e = .returned (.slice A (pairsF m n).length c) ∧ Own w' 28 2 A (pairsF m n).length c (pcells (pairsF m n)) ∧ (∀ k, At A k → w.heap.size ≤ k) ∧ Upd Non w w' := by
  go_enter Try.func13, Try.ntmps13
  go_wp2_with fail
  go_loopg [5, 6] 6 (fun g v i wr => ∃ (k c q : Nat) (A : Option Addr), Hid (g = 6 - k) ∧ k ≤ 6 ∧ k ≤ m.length / 2 ∧ Hid (q = 2 * k) ∧ i = .int .i64 (q : Nat) ∧ v = .slice A k c ∧ Own wr 28 2 A k c (pcells (pairsTo m n k)) ∧ Hid (∀ j, At A j → w.heap.size ≤ j) ∧ Upd Non w wr)
  case atStart => exact ⟨0, 0, 0, none, rfl, by omega, by omega, rfl, rfl, rfl, Own.none_, fun j hj => (At.none_ hj).elim, Upd.refl⟩
  case round =>
    obtain ⟨k, c, q, A, Hg, hk, hkl, Hq, rfl, rfl, ho, HA, hu⟩ := hrel
    have hq12 : q ≤ 12 := by have := Hq.out; omega
    by_cases hlt : q + 1 < m.length ∧ q < 12
    · obtain ⟨hlt, hk6⟩ := hlt
      obtain ⟨mb, mo, rfl, _, hmlt, c0'⟩ := hm.at_ (k := q) (by omega)
      obtain ⟨mb', mo', e, _, _, c1'⟩ := hm.at_ (k := q + 1) hlt
      obtain ⟨rfl, rfl⟩ : mb = mb' ∧ mo = mo' := by injection e with e; injection e with a b; exact ⟨a, b⟩
      have c0 := cell_upd c0' hu (fun f => f)
      have c1 := cell_upd c1' hu (fun f => f)
      have HNA : Hid (¬ At A mb) := fun h => by have := HA.out mb h; omega
      have HS := Lib.hid (pairsTo_succ m n k)
      have HP : Hid (pairAt m n k = (m[q] % (n + 2) - 1, m[q + 1] % (n + 2) - 1)) := by
        show _ = _
        unfold pairAt
        rw [← Hq.out, ← get0 (by omega), ← get0 hlt]
      have C1 := Lib.hid (fun (W : World) (x : Int) => pick_c x (n + 2) W (by omega) (by omega))
      clear e c0' c1'
      generalize m[q] = x at *
      generalize m[q + 1] = y at *
      have m1 := Int.emod_nonneg x (show ((n : Int) + 2) ≠ 0 by omega)
      have m2 := Int.emod_lt_of_pos x (show (0 : Int) < (n : Int) + 2 by omega)
      have m3 := Int.emod_nonneg y (show ((n : Int) + 2) ≠ 0 by omega)
      have m4 := Int.emod_lt_of_pos y (show (0 : Int) < (n : Int) + 2 by omega)
      have e1 : IntKind.i64.wrap ((q : Int) + 1) = (q : Int) + 1 := by rw [IntKind.wrap_i64]; omega
      have e3 : (0 : Int) ≤ (q : Int) + 1 := by omega
      have e4 : (q : Int) + 1 < (m.length : Int) := by omega
      have e5 : ((q : Int) + 1).toNat = q + 1 := by omega
      have e2 : IntKind.i64.wrap ((n : Int) + 2) = ((n + 2 : Nat) : Int) := by rw [IntKind.wrap_i64]; omega
      have hq0 : q < m.length := by omega
      have hmb : mb < wr.heap.size := World.block_lt_of_cell? _ _ c0
      go_wp2_with fail
      go_region_held3 (fun w' => w'.cell? ⟨mb, mo + q, none⟩ = some (.int .i64 x) ∧ w'.cell? ⟨mb, mo + (q + 1), none⟩ = some (.int .i64 y))
        (first | exact ⟨cell_upd c0 (Upd.refl (S := Non)).drew (fun f => f), cell_upd c1 (Upd.refl (S := Non)).drew (fun f => f)⟩ | exact ⟨cell_upd c0 ((Upd.refl (S := Non)).drew.alloc _) (fun f => f), cell_upd c1 ((Upd.refl (S := Non)).drew.alloc _) (fun f => f)⟩ | exact ⟨k0, k1⟩ | go_keep)
        (first
          | (refine step_app rfl rfl T_pairs rfl ((show Own wr.drew _ _ _ _ _ _ from ho).alloc _) rfl (Sl.new _ _ _) rfl (by simp [Value.oneCell']) (by simp only [maxLen]; omega) (by omega) ?_; intro A4 c4 w4 ho4 hu4 hat4; have k0 := cell_upd (cell_upd c0 ((Upd.refl (S := Non)).drew.alloc _) (fun f => f)) hu4 (HNA.out); have k1 := cell_upd (cell_upd c1 ((Upd.refl (S := Non)).drew.alloc _) (fun f => f)) hu4 (HNA.out))
          | (go_at_call 14; refine (C1.out _ _).mono ?_; rintro e w1 ⟨rfl, rfl⟩))
      go_wp2_with fail
      go_roundg (6 - (k + 1))
      case measure => rw [Hg.out]; have := Hq.out; omega
      case rel =>
        have hq := Hq.out
        refine ⟨k + 1, c4, q + 2, A4, rfl, by omega, by omega, by show _ = _; omega, by go_num, rfl, ?_, fun j hj => ?_, ?_⟩
        · rw [i64w_of (x := x % (n + 2) - 1) (by unfold I64; omega), i64w_of (x := y % (n + 2) - 1) (by unfold I64; omega)] at ho4
          rw [HS.out, HP.out, pcells_snoc]; exact ho4
        · rcases hat4 j hj with h | h
          · exact HA.out j h
          · have := hu.size; simp at h; omega
        · exact (hu.drew.alloc _).trans hu4 (fun i hi h => by have := HA.out i h; omega)
    · have HF : Hid (pairsF m n = pairsTo m n k) := by
        show _ = _
        unfold pairsF
        congr 1
        have := Hq.out
        omega
      have hkl2 := pairsTo_len m n k
      have HKL := Lib.hid hkl2
      clear hkl2
      by_cases hc : q + 1 < m.length
      · have h12 : ¬ q < 12 := fun h => hlt ⟨hc, h⟩
        have hd : decide (q < 12) = false := by simpa using h12
        clear hlt
        go_wp2_with fail
        go_ret
        rw [HF.out, HKL.out]
        exact ⟨A, c, rfl, ho, HA.out, hu⟩
      · have hd : decide (q + 1 < m.length) = false := by simpa using hc
        have hd2 : decide ((q : Int) + 1 < (m.length : Int)) = false := by simp; omega
        clear hlt
        go_wp2_with fail
        go_ret
        rw [HF.out, HKL.out]
        exact ⟨A, c, rfl, ho, HA.out, hu⟩
end Go.Proofs.Ytlehiklgbladoaa
