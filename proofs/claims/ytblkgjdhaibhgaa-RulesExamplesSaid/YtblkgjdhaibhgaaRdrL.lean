/-
  What isLower, lookup and the reader's variable do.
-/
import Derived.Test.YtblkgjdhaibhgaaRdrW
namespace Go.Proofs.Ytblkgjdhaibhgaa
open Go.RowKit

theorem rIsLower_c (c : UInt8) (w : World) : Calls Try.prog 81 #[.int .u8 c.toNat] w fun e w' => e = .returned (.bool (isLw c)) ∧ w' = w := by
  have HR : Hid (isLw c = decide (97 ≤ c.toNat ∧ c.toNat ≤ 122)) := rfl
  obtain ⟨R, HRR⟩ := nm (isLw c)
  rw [HRR.out] at HR ⊢
  obtain ⟨x, Hx⟩ := nm c.toNat
  rw [Hx.out] at HR ⊢
  by_cases h1 : 97 ≤ x
  · have f1 : decide ((97 : Int) ≤ (x : Int)) = true := decide_eq_true (by omega)
    obtain ⟨b, f2⟩ : ∃ b, decide ((x : Int) ≤ 122) = b := ⟨_, rfl⟩
    obtain rfl : R = b := by
      rw [HR.out, ← f2, Bool.eq_iff_iff, decide_eq_true_eq, decide_eq_true_eq]; omega
    go_enter Try.func81, Try.ntmps81
    go_wp2_with fail
    go_ret
    exact ⟨rfl, rfl⟩
  · have f1 : decide ((97 : Int) ≤ (x : Int)) = false := decide_eq_false (by omega)
    obtain rfl : R = false := by rw [HR.out]; exact decide_eq_false (by omega)
    go_enter Try.func81, Try.ntmps81
    go_wp2_with fail
    go_ret
    exact ⟨rfl, rfl⟩
theorem findB_step {l : Bs} {k : Nat} (h : k < l.length) (c : UInt8) (i : Nat) : findB (l.drop k) c i = if l.getD k 0 = c then some i else findB (l.drop (k + 1)) c (i + 1) := by rw [drop_cons h]; rfl
theorem u8s_len (l : Bs) : (u8s l).length = l.length := by simp [u8s]
theorem u8s_get (l : Bs) {k : Nat} (h : k < l.length) : (u8s l)[k]'(by rw [u8s_len]; exact h) = .int .u8 ((l.getD k 0).toNat : Int) := by simp [u8s, List.getD, h]
set_option maxRecDepth 100000 in
set_option maxHeartbeats 4000000 in
theorem rLookup_c (w : World) (p o : Nat) (T : TypeId) (cs : Array Value) (VA : Option Addr) (vc : Nat) (vs : Bs) (hb : Blk w p T cs) (hcs : cs[o]? = some (.slice VA vs.length vc)) (hv : Own w 5 1 VA vs.length vc (u8s vs)) (hp : ¬ At VA p) (c : UInt8) (left : Bool) (hn : vs.length ≤ 100000) :
    Calls Try.prog 82 #[.pointer (some ⟨p, o, none⟩), .int .u8 c.toNat, .bool left] w fun e w' => e = .returned (.int .i64 (lookF vs c left).1) ∧ ∃ (VA' : Option Addr) (vc' : Nat), Blk w' p T (cs.setIfInBounds o (.slice VA' (lookF vs c left).2.length vc')) ∧ Own w' 5 1 VA' (lookF vs c left).2.length vc' (u8s (lookF vs c left).2) ∧ (∀ k, At VA' k → At VA k ∨ w.heap.size ≤ k) ∧ Upd (fun k => k = p ∨ At VA k) w w' := by
  have c0 := hb.cell o
  rw [hcs] at c0
  have hf := hb.frozen o
  have hL : Hid (lookF vs c left = match findB vs c 0 with | some i => (i + 1, vs) | none => if left then (vs.length + 1, vs ++ [c]) else (0, vs)) := rfl
  have hsame : cs.setIfInBounds o (.slice VA vs.length vc) = cs := by
    apply Array.ext
    · simp
    · intro i h1 h2
      rw [Array.getElem_setIfInBounds]
      · split
        · rename_i e
          subst e
          rw [Array.getElem?_eq_getElem h2] at hcs
          exact (Option.some.inj hcs).symm
        · rfl
  obtain ⟨n, Hn⟩ := nm vs.length
  rw [Hn.out] at c0 hn hsame
  have hv2 : Own w 5 1 VA n vc (u8s vs) := by rw [← Hn.out]; exact hv
  have HS := Lib.hid hsame
  have HCS := Lib.hid hcs
  clear hsame hcs hv
  go_enter Try.func82, Try.ntmps82
  go_wp2_with fail
  go_loopg [13] n (fun g s wr => ∃ k : Nat, Hid (g = n - k) ∧ k ≤ n ∧ s = .int .i64 k ∧ Hid (findB vs c 0 = findB (vs.drop k) c k) ∧ wr = w)
  case atStart => exact ⟨0, rfl, by omega, rfl, by show _ = _; rw [List.drop_zero], rfl⟩
  case round =>
    obtain ⟨k, Hg, hk, rfl, HK, hw⟩ := hrel
    subst hw
    by_cases hlt : k < n
    · have ti : decide ((k : Int) < (n : Int)) = true := decide_eq_true (by omega)
      have hkl : k < vs.length := by rw [Hn.out]; exact hlt
      obtain ⟨g, rfl⟩ := hv2.some_ (by omega)
      have hc := hv2.cell_ (i := k) (by rw [u8s_len]; exact hkl)
      rw [u8s_get vs hkl] at hc
      have HF := Lib.hid (findB_step hkl c k)
      obtain ⟨y, Hy⟩ := nm (vs.getD k 0)
      rw [Hy.out] at hc HF
      by_cases hyc : y = c
      · have fy : (((y.toNat : Nat) : Int) == ((c.toNat : Nat) : Int)) = true := by rw [hyc]; simp
        have HR : Hid (lookF vs c left = (k + 1, vs)) := by show _ = _; rw [hL.out, HK.out, HF.out, if_pos hyc]
        clear hyc HF HK hL
        go_wp2_with fail
        go_ret
        refine ⟨by rw [HR.out]; rfl, some ⟨g, 0, none⟩, vc, ?_, ?_, fun _ h => .inl h, Upd.refl⟩
        · rw [HR.out, Hn.out, HS.out]; exact hb
        · rw [HR.out, Hn.out]; exact hv2
      · have fy : (((y.toNat : Nat) : Int) == ((c.toNat : Nat) : Int)) = false := by
          simp only [beq_eq_false_iff_ne, ne_eq]
          intro q
          exact hyc (UInt8.toNat_inj.1 (by omega))
        have HK2 : Hid (findB vs c 0 = findB (vs.drop (k + 1)) c (k + 1)) := by show _ = _; rw [HK.out, HF.out, if_neg hyc]
        clear hyc HF HK
        go_wp2_with fail
        go_roundg (n - (k + 1))
        case measure => rw [Hg.out]; omega
        case rel => exact ⟨k + 1, rfl, by omega, by go_num, HK2, rfl⟩
    · obtain rfl : n = k := by omega
      have hnone : findB vs c 0 = none := by rw [HK.out, List.drop_of_length_le (by rw [Hn.out]; exact Nat.le_refl _)]; rfl
      have HN : Hid (lookF vs c left = if left then (n + 1, vs ++ [c]) else (0, vs)) := by show _ = _; rw [hL.out, hnone, Hn.out]
      clear hnone HK hL
      cases left with
      | false =>
        go_wp2_with fail
        go_ret
        refine ⟨by rw [HN.out]; rfl, VA, vc, ?_, ?_, fun _ h => .inl h, Upd.refl⟩
        · rw [HN.out]; show Blk _ _ _ (cs.setIfInBounds o (.slice VA vs.length vc)); rw [Hn.out, HS.out]; exact hb
        · rw [HN.out]; show Own _ _ _ _ vs.length _ _; rw [Hn.out]; exact hv2
      | true =>
        have ho : o < cs.size := by
          rcases Nat.lt_or_ge o cs.size with q | q
          · exact q
          · have := HCS.out
            rw [Array.getElem?_eq_none q] at this; cases this
        have HO := Lib.hid ho
        have hbu := hb
        have hcs2 := HCS.out
        rw [Hn.out] at hcs2
        have HCS2 := Lib.hid hcs2
        clear ho HCS HS Hg hcs2
        go_wp2_with (at_builtin; refine wpList_app rfl rfl T_u8s rfl (hv2.alloc _) rfl (Sl.new _ _ _) rfl (by simp [Value.oneCell']) (by simp only [maxLen]; omega) (by omega) ?_; intro A8 c8 w8 ho8 hu8 hat8; have b8 := (hbu.alloc _).upd hu8 hp; have d8 := b8.cell o; rw [HCS2.out] at d8; have f8 := b8.frozen o; have b9 := b8.set_ o (.slice A8 (n + 1) c8); have d9 := b9.cell o; rw [Array.getElem?_setIfInBounds_self_of_lt HO.out] at d9)
        go_ret
        refine ⟨?_, A8, c8, ?_, ?_, fun k h => ?_, ?_⟩
        · rw [HN.out]; rfl
        · rw [HN.out]
          show Blk _ _ _ (cs.setIfInBounds o (.slice A8 (vs ++ [c]).length c8))
          rw [List.length_append, Hn.out]; exact b9
        · rw [HN.out]
          show Own _ _ _ _ (vs ++ [c]).length _ (u8s (vs ++ [c]))
          rw [List.length_append, Hn.out]
          have e : u8s (vs ++ [c]) = u8s vs ++ [.int .u8 (c.toNat : Int)] := by simp [u8s]
          rw [e]
          refine Own.upd ho8 (updCell _ _ _ _) (fun k hk e => ?_)
          subst e
          rcases hat8 k hk with q | q
          · exact hp q
          · have := hbu.lt; rw [q] at this; simp at this; omega
        · rcases hat8 k h with q | q
          · exact .inl q
          · right; rw [q]; simp
        · exact ((Upd.refl.alloc _).trans hu8 (fun _ _ h => .inr h)).trans (updCell _ _ _ _) (fun _ _ h => .inl h)
end Go.Proofs.Ytblkgjdhaibhgaa
