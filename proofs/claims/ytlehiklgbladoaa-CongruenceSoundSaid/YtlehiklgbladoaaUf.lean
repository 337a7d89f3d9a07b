/-
  What the union-find of package congruence does: find, union.
-/
import Derived.Test.YtlehiklgbladoaaProg
import Derived.Test.YtlehiklgbladoaaBase
import Derived.Test.YtlehiklgbladoaaCong
namespace Go.Proofs.Ytlehiklgbladoaa
open Go.RowKit

def ints (l : List Nat) : Array Value := (l.map fun (x : Nat) => Value.int .i64 (x : Int)).toArray
theorem ints_at {l : List Nat} {k : Nat} (h : k < l.length) : (ints l)[k]? = some (.int .i64 (l[k] : Int)) := by simp [ints, h]
theorem ints_set {l : List Nat} {k x : Nat} : (ints l).setIfInBounds k (.int .i64 (x : Int)) = ints (l.set k x) := by simp [ints, List.map_set]

/-- The parents l describe the classes c: c k is the smallest node of k's class. -/
structure Rep (l : List Nat) (c : Nat → Nat) : Prop where
  le : ∀ k (h : k < l.length), l[k] ≤ k
  step : ∀ k (h : k < l.length), c l[k] = c k
  root : ∀ k (h : k < l.length), l[k] = k → c k = k
  cle : ∀ k, k < l.length → c k ≤ k
  idem : ∀ k, k < l.length → c (c k) = c k
theorem Rep.halve {l : List Nat} {c : Nat → Nat} (r : Rep l c) (k : Nat) (h : k < l.length) (hne : l[k] ≠ k) :
    Rep (l.set k (l[l[k]]'(by have := r.le k h; omega))) c := by
  have h1 := r.le k h
  have h2 : l[k] < l.length := by omega
  have h3 := r.le l[k] h2
  refine ⟨fun j hj => ?_, fun j hj => ?_, fun j hj => ?_, fun j hj => r.cle j (by simpa using hj), fun j hj => r.idem j (by simpa using hj)⟩ <;> rw [List.getElem_set] <;> split
  · omega
  · exact r.le j (by simpa using hj)
  · rename_i e; subst e; rw [r.step _ h2, r.step _ h]
  · exact r.step j (by simpa using hj)
  · rename_i e; subst e; intro e2; omega
  · exact r.root j (by simpa using hj)
theorem Rep.named {l : List Nat} {c : Nat → Nat} (r : Rep l c) : Named l.length c := ⟨r.cle, r.idem⟩
theorem Rep.join {l : List Nat} {c : Nat → Nat} (r : Rep l c) (a b : Nat) (ha : a < l.length) (hb : b < l.length) (hne : c a ≠ c b) :
    Rep (l.set (max (c a) (c b)) (min (c a) (c b))) (joinc c a b) := by
  have ca := r.cle a ha
  have cb := r.cle b hb
  have ia := r.idem a ha
  have ib := r.idem b hb
  have hmin : c (min (c a) (c b)) = min (c a) (c b) := by
    rcases Nat.le_total (c a) (c b) with h | h
    · rw [Nat.min_eq_left h, ia]
    · rw [Nat.min_eq_right h, ib]
  have hmax : c (max (c a) (c b)) = max (c a) (c b) := by
    rcases Nat.le_total (c a) (c b) with h | h
    · rw [Nat.max_eq_right h, ib]
    · rw [Nat.max_eq_left h, ia]
  have hlt : min (c a) (c b) < max (c a) (c b) := by omega
  have jle : ∀ k, k < l.length → joinc c a b k ≤ k := by
    intro k hk
    have := r.cle k hk
    unfold joinc; split <;> omega
  have jid : ∀ k, k < l.length → joinc c a b (joinc c a b k) = joinc c a b k := by
    intro k hk
    unfold joinc
    by_cases h : c k = max (c a) (c b)
    · simp only [h, if_true]; rw [hmin, if_neg (by omega)]
    · simp only [h, if_false]; rw [r.idem k hk, if_neg h]
  refine ⟨fun j hj => ?_, fun j hj => ?_, fun j hj => ?_, fun j hj => jle j (by simpa using hj), fun j hj => jid j (by simpa using hj)⟩ <;> rw [List.getElem_set] <;> split
  · omega
  · exact r.le j (by simpa using hj)
  · rename_i e; subst e
    unfold joinc; rw [hmin, hmax, if_neg (by omega), if_pos rfl]
  · have := r.step j (by simpa using hj)
    unfold joinc; rw [this]
  · rename_i e; subst e; intro e2; omega
  · rename_i e
    intro e2
    have := r.root j (by simpa using hj) e2
    unfold joinc; rw [this, if_neg (by omega)]

set_option maxHeartbeats 400000 in
theorem find_c (b i : Nat) (w : World) (l : List Nat) (c : Nat → Nat) (hi : i < l.length)
   (hb : Blk w b 3 (ints l)) (hr : Rep l c) :
    Calls Try.prog 19 #[.slice (some ⟨b, 0, none⟩) l.length l.length, .int .i64 i] w fun e w' => e = .returned (.int .i64 (c i : Nat)) ∧ ∃ l', l'.length = l.length ∧ Rep l' c ∧ Blk w' b 3 (ints l') ∧ Upd (· = b) w w' := by
  obtain ⟨n, Hn⟩ : ∃ n, Hid (l.length = n) := ⟨_, rfl⟩
  rw [Hn.out] at hi ⊢
  go_enter Try.func19, Try.ntmps19
  go_wp2
  go_loopw [1] (fun i' wr => ∃ (k : Nat) (l' : List Nat), i' = .int .i64 k ∧ k < n ∧ Hid (c k = c i) ∧ Hid (l'.length = n) ∧ Rep l' c ∧ Blk wr b 3 (ints l') ∧ Upd (· = b) w wr) (fun i _ => (intOf i).toNat)
  case atStart => exact ⟨i, l, rfl, hi, rfl, Hn, hr, hb, Upd.refl⟩
  case round =>
    obtain ⟨k, l', rfl, hk, Hc, Hl, r', hb', hu⟩ := hrel
    have hk' : k < l'.length := by rw [Hl.out]; exact hk
    have h1 := r'.le k hk'
    have h2 : l'[k] < l'.length := by omega
    have c1 := hb'.cell k
    rw [ints_at hk'] at c1
    have c2 := hb'.cell l'[k]
    rw [ints_at h2] at c2
    have c3 := hb'.frozen k
    by_cases he : l'[k] = k
    · have e1 := r'.root k hk' he
      rw [he] at c1
      clear h1 h2 c2
      have He := Lib.hid he
      have E1 := Lib.hid e1
      clear he e1
      go_wp2
      go_ret
      exact ⟨by show Ending.returned (.int .i64 (k : Int)) = _; rw [← Hc.out, E1.out], l', Hl.out, r', hb', hu⟩
    · have r2 := r'.halve k hk' he
      have hlt : l'[k] < k := by omega
      have h3 := r'.le _ h2
      have hst := r'.step _ hk'
      have hst2 := r'.step _ h2
      have hs2 := (hb'.set_ k (.int .i64 ((l'[l'[k]] : Nat) : Int)))
      rw [ints_set] at hs2
      have hu2 := hu.setCell (p := ⟨b, k, none⟩) (.inl rfl) (.int .i64 ((l'[l'[k]] : Nat) : Int))
      have hl2 : (l'.set k l'[l'[k]]).length = n := by rw [List.length_set]; exact Hl.out
      generalize (l'.set k l'[l'[k]]) = l2 at *
      generalize l'[l'[k]] = y at *
      generalize l'[k] = x at *
      have Hc2 : Hid (c y = c i) := by show _ = _; rw [hst2, hst, Hc.out]
      have Hl2 := Lib.hid hl2
      have hxn : x < n := by omega
      have hne : ((x : Int) != k) = true := by simp; omega
      clear hst hst2 h2 hl2 he hk'
      go_wp2
      go_roundw
      case rel => exact ⟨y, l2, rfl, by omega, Hc2, Hl2, r2, hs2, hu2⟩
      case measure => simp [intOf]; omega

set_option maxHeartbeats 400000 in
theorem union_c (b i j : Nat) (w : World) (l : List Nat) (c : Nat → Nat) (hi : i < l.length) (hj : j < l.length)
   (hb : Blk w b 3 (ints l)) (hr : Rep l c) :
    Calls Try.prog 17 #[.slice (some ⟨b, 0, none⟩) l.length l.length, .int .i64 i, .int .i64 j] w fun e w' =>
      e = .returned (.bool (decide (c i ≠ c j))) ∧ ∃ l', l'.length = l.length ∧ Rep l' (joinc c i j) ∧ Blk w' b 3 (ints l') ∧ Upd (· = b) w w' := by
  obtain ⟨n, Hn⟩ : ∃ n, Hid (l.length = n) := ⟨_, rfl⟩
  have C1 := Lib.hid (find_c b i w l c hi hb hr)
  rw [Hn.out] at C1 hi hj ⊢
  clear hb hr
  go_enter Try.func17, Try.ntmps17
  go_wp2_with fail
  refine C1.out.mono ?_
  rintro e w1 ⟨rfl, l1, hl1, hr1, hb1, hu1⟩
  have C2 := Lib.hid (find_c b j w1 l1 c (by omega) hb1 hr1)
  rw [hl1] at C2
  clear hl1 hb1 hr1 C1
  go_wp2_with fail
  refine C2.out.mono ?_
  rintro e w2 ⟨rfl, l2, hl2, hr2, hb2, hu2⟩
  have hu := hu1.trans hu2 (fun _ _ h => h)
  have h1 := hr2.cle i (by omega)
  have h2 := hr2.cle j (by omega)
  have HL := Lib.hid hl2
  by_cases he : c i = c j
  · have HD := Lib.hid (show decide (c i ≠ c j) = false by simp [he])
    have hr3 := hr2
    rw [← joinc_same he] at hr3
    have hb0 : (((c i : Nat) : Int) == ((c j : Nat) : Int)) = true := by simp [he]
    clear he hl2 C2
    go_wp2
    go_ret
    refine ⟨by rw [HD.out]; rfl, l2, HL.out, hr3, hb2, hu⟩
  · have HD := Lib.hid (show decide (c i ≠ c j) = true by simp [he])
    have hr3 := hr2.join i j (by omega) (by omega) he
    have hb3 := hb2.set_ (max (c i) (c j)) (.int .i64 ((min (c i) (c j) : Nat) : Int))
    rw [ints_set] at hb3
    have hu3 := hu.setCell (p := ⟨b, max (c i) (c j), none⟩) (.inl rfl) (.int .i64 ((min (c i) (c j) : Nat) : Int))
    obtain ⟨y, c1⟩ : ∃ y : Nat, w2.cell? ⟨b, max (c i) (c j), none⟩ = some (.int .i64 y) := ⟨_, by rw [hb2.cell, ints_at (by omega)]⟩
    have c3 := hb2.frozen (max (c i) (c j))
    have HL2 := Lib.hid (show (l2.set (max (c i) (c j)) (min (c i) (c j))).length = n by simp [hl2])
    have hne : (((c i : Nat) : Int) == ((c j : Nat) : Int)) = false := by simp; omega
    have hm : max (c i) (c j) < n := by omega
    rcases Nat.lt_or_gt_of_ne he with hlt | hlt
    all_goals
      first
        | rw [Nat.max_eq_right (Nat.le_of_lt hlt), Nat.min_eq_left (Nat.le_of_lt hlt)] at hr3 hb3 hu3 HL2
          rw [Nat.max_eq_right (Nat.le_of_lt hlt)] at c1 c3 hm
        | rw [Nat.max_eq_left (Nat.le_of_lt hlt), Nat.min_eq_right (Nat.le_of_lt hlt)] at hr3 hb3 hu3 HL2
          rw [Nat.max_eq_left (Nat.le_of_lt hlt)] at c1 c3 hm
      clear hl2 C2 he
      go_wp2
      go_ret
      exact ⟨by rw [HD.out]; rfl, _, HL2.out, hr3, hb3, hu3⟩
end Go.Proofs.Ytlehiklgbladoaa
