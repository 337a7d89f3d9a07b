/-
  What the reference's join and congruent do.
-/
import Derived.Test.YtigambcefdeaoaaProg
import Derived.Test.YtigambcefdeaoaaViews
import Derived.Test.YtigambcefdeaoaaPass
namespace Go.Proofs.Ytigambcefdeaoaa
open Go.RowKit

/-- Block g begins with the numbers l. -/
def Row (w : World) (g : Nat) (l : List Nat) : Prop := ∃ extra : Array Value, Blk w g 3 (ints l ++ extra)
section
variable {w w' : World} {g : Nat} {l : List Nat}
theorem Row.cell (h : Row w g l) {k : Nat} (hk : k < l.length) : w.cell? ⟨g, k, none⟩ = some (.int .i64 (l[k] : Nat)) := by
  obtain ⟨x, h⟩ := h
  rw [h.cell, Array.getElem?_append_left (by simpa [ints] using hk)]
  exact ints_at hk
theorem Row.frozen (h : Row w g l) (k : Nat) : w.frozen? ⟨g, k, none⟩ = false := by obtain ⟨x, h⟩ := h; exact h.frozen k
theorem Row.lt (h : Row w g l) : g < w.heap.size := by obtain ⟨x, h⟩ := h; exact h.lt
theorem Row.upd {S : Nat → Prop} (h : Row w g l) (u : Upd S w w') (hS : ¬ S g) : Row w' g l := by obtain ⟨x, h⟩ := h; exact ⟨x, h.upd u hS⟩
theorem Row.drewN (h : Row w g l) (n : Nat) : Row (w.drewN n) g l := h
theorem Row.set_ (h : Row w g l) {k : Nat} (hk : k < l.length) (x : Nat) : Row (w.setCell ⟨g, k, none⟩ (.int .i64 (x : Nat))) g (l.set k x) := by
  obtain ⟨e, h⟩ := h
  refine ⟨e, ?_⟩
  have := h.set_ k (.int .i64 (x : Nat))
  rw [Array.setIfInBounds_append_left (by simpa [ints] using hk), ints_set] at this
  exact this
theorem Row.ints (h : Row w g l) {F : Nat → Prop} (hF : F g) : Ints w F (some ⟨g, 0, none⟩) (l.map fun (x : Nat) => (x : Int)) := by
  refine .inr ⟨g, 0, rfl, hF, fun j hj => ?_⟩
  have hj' : j < l.length := by simpa using hj
  rw [Nat.zero_add, h.cell hj']
  simp
end

def joinL (l : List Nat) (lo hi : Nat) : List Nat := l.map fun x => if x = hi then lo else x
/-- The first k places joined. -/
def joinTo (l : List Nat) (lo hi k : Nat) : List Nat := joinL (l.take k) lo hi ++ l.drop k
theorem joinTo_len (l : List Nat) (lo hi k : Nat) : (joinTo l lo hi k).length = l.length := by simp [joinTo, joinL]; omega
theorem joinTo_get (l : List Nat) (lo hi k : Nat) (hk : k < l.length) : (joinTo l lo hi k)[k]'(by rw [joinTo_len]; exact hk) = l[k] := by
  unfold joinTo joinL
  rw [List.getElem_append_right (by simp; omega)]
  simp [Nat.min_eq_left (Nat.le_of_lt hk)]
theorem joinTo_succ_ne (l : List Nat) (lo hi k : Nat) (hk : k < l.length) (h : l[k] ≠ hi) : joinTo l lo hi (k + 1) = joinTo l lo hi k := by
  unfold joinTo joinL
  rw [List.take_succ_eq_append_getElem hk, List.map_append, List.drop_eq_getElem_cons hk]
  simp [h]
theorem joinTo_succ_eq (l : List Nat) (lo hi k : Nat) (hk : k < l.length) (h : l[k] = hi) : joinTo l lo hi (k + 1) = (joinTo l lo hi k).set k lo := by
  unfold joinTo joinL
  rw [List.take_succ_eq_append_getElem hk, List.map_append, List.drop_eq_getElem_cons hk, List.set_append_right _ _ (by simp; omega)]
  simp [h, Nat.min_eq_left (Nat.le_of_lt hk)]
theorem joinTo_all (l : List Nat) (lo hi : Nat) : joinTo l lo hi l.length = joinL l lo hi := by simp [joinTo]
theorem joinTo_zero (l : List Nat) (lo hi : Nat) : joinTo l lo hi 0 = l := by simp [joinTo, joinL]

set_option maxHeartbeats 1000000 in
theorem join_c (g a b cc : Nat) (w : World) (l : List Nat) (ha : a < l.length) (hb : b < l.length) (hl : l.length ≤ 1000000) (hr : Row w g l) :
    Calls Try.prog 56 #[.slice (some ⟨g, 0, none⟩) l.length cc, .int .i64 a, .int .i64 b] w fun e w' =>
      e = .returned (.tuple #[]) ∧ Row w' g (joinL l (min l[a] l[b]) (max l[a] l[b])) ∧ Upd (· = g) w w' := by
  have ca := hr.cell ha
  have cb := hr.cell hb
  obtain ⟨x, Hx⟩ : ∃ x, Hid (l[a] = x) := nm _
  obtain ⟨y, Hy⟩ : ∃ y, Hid (l[b] = y) := nm _
  obtain ⟨lo, Hlo⟩ : ∃ lo, Hid (min x y = lo) := ⟨_, rfl⟩
  obtain ⟨hi, Hhi⟩ : ∃ hi, Hid (max x y = hi) := ⟨_, rfl⟩
  rw [Hx.out] at ca ⊢
  rw [Hy.out] at cb ⊢
  rw [Hlo.out, Hhi.out]
  have hmin : (if y < x then (y : Int) else (x : Int)) = (lo : Int) := by rw [← Hlo.out]; split <;> omega
  have hmax : (if x < y then (y : Int) else (x : Int)) = (hi : Int) := by rw [← Hhi.out]; split <;> omega
  go_enter Try.func56, Try.ntmps56
  go_wp2_with fail
  go_quiet (fail)
  go_wp2_with fail
  go_quiet (fail)
  clear ca cb
  go_wp2_with fail
  go_loopg [8] l.length (fun g' i wr => ∃ k : Nat, Hid (g' = l.length - k) ∧ k ≤ l.length ∧ i = .int .i64 k ∧ Row wr g (joinTo l lo hi k) ∧ Upd (· = g) w wr)
  case atStart => exact ⟨0, rfl, by omega, rfl, by rw [joinTo_zero]; exact hr, (Upd.refl.drewN _).drewN _⟩
  case round =>
    obtain ⟨k, Hg, hk, rfl, hr2, hu⟩ := hrel
    clear hmin hmax
    by_cases hlt : k < l.length
    · have hk2 : k < (joinTo l lo hi k).length := by rw [joinTo_len]; exact hlt
      have c1 := hr2.cell hk2
      rw [joinTo_get l lo hi k hlt] at c1
      have c2 := hr2.frozen k
      by_cases he : l[k] = hi
      · have hr3 := hr2.set_ hk2 lo
        rw [← joinTo_succ_eq l lo hi k hlt he] at hr3
        rw [he] at c1
        have hu2 := hu.setCell (p := ⟨g, k, none⟩) (.inl rfl) (.int .i64 (lo : Nat))
        clear he
        go_wp2_with fail
        go_roundg (l.length - (k + 1))
        case measure => rw [Hg.out]; omega
        case rel => exact ⟨k + 1, rfl, by omega, by go_num, hr3, hu2⟩
      · have hr3 := hr2
        rw [← joinTo_succ_ne l lo hi k hlt he] at hr3
        have hbe : (((l[k] : Nat) : Int) == (hi : Int)) = false := by simp; omega
        clear he
        go_wp2_with fail
        go_roundg (l.length - (k + 1))
        case measure => rw [Hg.out]; omega
        case rel => exact ⟨k + 1, rfl, by omega, by go_num, hr3, hu⟩
    · obtain rfl : l.length = k := by omega
      rw [joinTo_all] at hr2
      go_wp2_with fail
      go_end0
      exact ⟨rfl, hr2, hu⟩

instance (n : Nat) (c : Nat → Nat) (a b : Nd) : Decidable (Cg n c a b) := by unfold Cg; infer_instance

/-- The first k operands agree. -/
def Pre (n : Nat) (c : Nat → Nat) (a b : List Int) (k : Nat) : Prop := okKids n (a.take k) = true ∧ okKids n (b.take k) = true ∧ kidCs c (a.take k) = kidCs c (b.take k)
theorem Pre.zero (n : Nat) (c : Nat → Nat) (a b : List Int) : Pre n c a b 0 := ⟨rfl, rfl, rfl⟩
theorem Pre.succ {n : Nat} {c : Nat → Nat} {a b : List Int} {k : Nat} (h : Pre n c a b k) (ha : k < a.length) (hb : k < b.length) (i1 : inR n a[k]) (i2 : inR n b[k]) (he : c a[k].toNat = c b[k].toNat) : Pre n c a b (k + 1) := by
  obtain ⟨h1, h2, h3⟩ := h
  unfold Pre okKids kidCs at *
  unfold inR at i1 i2
  rw [List.take_succ_eq_append_getElem ha, List.take_succ_eq_append_getElem hb]
  refine ⟨?_, ?_, ?_⟩
  · rw [List.all_append, h1]; simpa using i1
  · rw [List.all_append, h2]; simpa using i2
  · rw [List.map_append, List.map_append, h3]; simp [he]
theorem Pre.all {n : Nat} {c : Nat → Nat} {a b : Nd} (h : Pre n c a.kids b.kids a.kids.length) (hl : a.kids.length = b.kids.length) (h1 : a.op = b.op) (h2 : a.imm = b.imm) : Cg n c a b := by
  obtain ⟨h3, h4, h5⟩ := h
  rw [List.take_length] at h3 h5
  rw [hl, List.take_length] at h4 h5
  exact ⟨h1, h2, h3, h4, h5⟩
theorem not_cg_kid {n : Nat} {c : Nat → Nat} {a b : Nd} {k : Nat} (ha : k < a.kids.length) (hb : k < b.kids.length) (h : ¬ (inR n a.kids[k] ∧ inR n b.kids[k] ∧ c a.kids[k].toNat = c b.kids[k].toNat)) : ¬ Cg n c a b := by
  rintro ⟨_, _, h3, h4, h5⟩
  refine h ⟨okKids_get h3 ha, okKids_get h4 hb, ?_⟩
  have := List.getElem_of_eq h5 (i := k) (by simpa [kidCs] using ha)
  simpa [kidCs] using this
theorem not_cg_len {n : Nat} {c : Nat → Nat} {a b : Nd} (h : a.kids.length ≠ b.kids.length) : ¬ Cg n c a b := by
  rintro ⟨_, _, _, _, h5⟩
  have := congrArg List.length h5
  simp [kidCs] at this
  exact h this

set_option maxHeartbeats 1000000 in
theorem congruent_c (g cc n : Nat) (w : World) (c : Nat → Nat) (F : Nat → Prop) (a b : Nd) (KA KB : Option Addr) (ka kb : Nat) (hr : Row w g ((List.range n).map c)) (hA : Ints w F KA a.kids) (hB : Ints w F KB b.kids)
    (hl : a.kids.length ≤ 1000000000000000) :
    Calls Try.prog 55 #[.agg #[.int .i64 a.op, .int .i64 a.imm, .slice KA a.kids.length ka], .agg #[.int .i64 b.op, .int .i64 b.imm, .slice KB b.kids.length kb], .slice (some ⟨g, 0, none⟩) n cc] w fun e w' =>
      e = .returned (.bool (decide (Cg n c a b))) ∧ Upd Non w w' := by
  by_cases h1 : a.op = b.op ∧ a.imm = b.imm ∧ a.kids.length = b.kids.length
  · obtain ⟨h1, h2, h3⟩ := h1
    have H1 := Lib.hid h1
    have H2 := Lib.hid h2
    have H3 := Lib.hid h3
    rw [← h1, ← h2, ← h3]
    obtain ⟨op, Hop⟩ : ∃ op, Hid (a.op = op) := nm _
    obtain ⟨imm, Him⟩ : ∃ imm, Hid (a.imm = imm) := nm _
    rw [Hop.out, Him.out]
    clear h1 h2 h3
    go_enter Try.func55, Try.ntmps55
    go_wp2_with fail
    go_loopg [7] a.kids.length (fun g' i wr => ∃ k : Nat, Hid (g' = a.kids.length - k) ∧ k ≤ a.kids.length ∧ i = .int .i64 k ∧ Pre n c a.kids b.kids k ∧ Upd Non w wr ∧
      Blk wr w.heap.size 24 #[.int .i64 op, .int .i64 imm, .slice KA a.kids.length ka] ∧ Blk wr (w.heap.size + 1) 24 #[.int .i64 op, .int .i64 imm, .slice KB a.kids.length kb])
    case atStart => exact ⟨0, rfl, by omega, rfl, Pre.zero _ _ _ _, (Upd.refl.alloc _).alloc _, (Blk.new _ _ _).alloc _, Blk.new' (by simp)⟩
    case round =>
      obtain ⟨k, Hg, hk, rfl, hp, hu, hb0, hb1⟩ := hrel
      have c0 := hb0.cell 2
      have c1 := hb1.cell 2
      by_cases hlt : k < a.kids.length
      · have hlt2 : k < b.kids.length := by rw [← H3.out]; exact hlt
        obtain ⟨ab, ao, rfl, _, _, ha1⟩ := (hA.upd hu (fun _ _ _ f => f)).at_ hlt
        obtain ⟨bb, bo, rfl, _, _, ha2⟩ := (hB.upd hu (fun _ _ _ f => f)).at_ hlt2
        have HS := Lib.hid (Pre.succ hp hlt hlt2)
        have HNO := Lib.hid (not_cg_kid (n := n) (c := c) hlt hlt2)
        generalize a.kids[k] = p at *
        generalize b.kids[k] = q at *
        by_cases h0 : p < 0
        · have HF := Lib.hid (decide_eq_false (HNO.out (fun h => by have := h.1.1; omega)))
          have d1 : decide (p < 0) = true := by simpa using h0
          clear HS HNO
          go_wp2_with fail
          go_quiet (fail)
          go_wp2_with fail
          go_ret
          exact ⟨by rw [HF.out]; rfl, hu.drewN _⟩
        by_cases h1 : q < 0
        · have HF := Lib.hid (decide_eq_false (HNO.out (fun h => by have := h.2.1.1; omega)))
          have d1 : decide (p < 0) = false := by simpa using h0
          have d2 : decide (q < 0) = true := by simpa using h1
          clear HS HNO
          go_wp2_with fail
          go_quiet (fail)
          go_wp2_with fail
          go_ret
          exact ⟨by rw [HF.out]; rfl, hu.drewN _⟩
        by_cases h2 : n ≤ p
        · have HF := Lib.hid (decide_eq_false (HNO.out (fun h => by have := h.1.2; omega)))
          have d1 : decide (p < 0) = false := by simpa using h0
          have d2 : decide (q < 0) = false := by simpa using h1
          have d3 : decide (↑n ≤ p) = true := by simpa using h2
          clear HS HNO
          go_wp2_with fail
          go_quiet (fail)
          go_wp2_with fail
          go_ret
          exact ⟨by rw [HF.out]; rfl, hu.drewN _⟩
        by_cases h3 : n ≤ q
        · have HF := Lib.hid (decide_eq_false (HNO.out (fun h => by have := h.2.1.2; omega)))
          have d1 : decide (p < 0) = false := by simpa using h0
          have d2 : decide (q < 0) = false := by simpa using h1
          have d3 : decide (↑n ≤ p) = false := by simpa using h2
          have d4 : decide (↑n ≤ q) = true := by simpa using h3
          clear HS HNO
          go_wp2_with fail
          go_quiet (fail)
          go_wp2_with fail
          go_ret
          exact ⟨by rw [HF.out]; rfl, hu.drewN _⟩
        have d1 : decide (p < 0) = false := by simpa using h0
        have d2 : decide (q < 0) = false := by simpa using h1
        have d3 : decide (↑n ≤ p) = false := by simpa using h2
        have d4 : decide (↑n ≤ q) = false := by simpa using h3
        obtain ⟨x, rfl⟩ := Int.eq_ofNat_of_zero_le (show 0 ≤ p by omega)
        obtain ⟨y, rfl⟩ := Int.eq_ofNat_of_zero_le (show 0 ≤ q by omega)
        have hxn : x < n := by omega
        have hyn : y < n := by omega
        have cx := (hr.upd hu (fun f => f)).cell (k := x) (by simpa using hxn)
        have cy := (hr.upd hu (fun f => f)).cell (k := y) (by simpa using hyn)
        rw [List.getElem_map, List.getElem_range] at cx cy
        by_cases he : c x = c y
        · have hp2 := HS.out ⟨by omega, by omega⟩ ⟨by omega, by omega⟩ he
          have d5 : (((c x : Nat) : Int) != ((c y : Nat) : Int)) = false := by simp [he]
          clear HS HNO he h0 h1 h2 h3
          go_wp2_with fail
          go_quiet (fail)
          go_wp2_with fail
          go_roundg (a.kids.length - (k + 1))
          case measure => rw [Hg.out]; omega
          case rel => exact ⟨k + 1, rfl, by omega, by go_num, hp2, hu.drewN _, hb0.drewN _, hb1.drewN _⟩
        · have HF := Lib.hid (decide_eq_false (HNO.out (fun h => he h.2.2)))
          have d5 : (((c x : Nat) : Int) != ((c y : Nat) : Int)) = true := by simp; omega
          clear HS HNO he h0 h1 h2 h3
          go_wp2_with fail
          go_quiet (fail)
          go_wp2_with fail
          go_ret
          exact ⟨by rw [HF.out]; rfl, hu.drewN _⟩
      · obtain rfl : a.kids.length = k := by omega
        have HF := Lib.hid (decide_eq_true (hp.all H3.out H1.out H2.out))
        go_wp2_with fail
        go_ret
        exact ⟨by rw [HF.out]; rfl, hu⟩
  · have HF : Hid (decide (Cg n c a b) = false) := decide_eq_false (fun h => h1 ⟨h.1, h.2.1, by have := congrArg List.length h.2.2.2.2; simpa [kidCs] using this⟩)
    by_cases e1 : a.op = b.op
    · by_cases e2 : a.imm = b.imm
      · have e3 : ((a.kids.length : Int) != (b.kids.length : Int)) = true := by simp; omega
        rw [e1, e2]
        clear h1 e1 e2
        go_enter Try.func55, Try.ntmps55
        go_wp2_with fail
        go_ret
        exact ⟨by rw [HF.out]; rfl, (Upd.refl.alloc _).alloc _⟩
      · have e3 : (a.imm != b.imm) = true := by simpa using e2
        rw [e1]
        clear h1 e1 e2
        go_enter Try.func55, Try.ntmps55
        go_wp2_with fail
        go_ret
        exact ⟨by rw [HF.out]; rfl, (Upd.refl.alloc _).alloc _⟩
    · have e3 : (a.op != b.op) = true := by simpa using e1
      clear h1 e1
      go_enter Try.func55, Try.ntmps55
      go_wp2_with fail
      go_ret
      exact ⟨by rw [HF.out]; rfl, (Upd.refl.alloc _).alloc _⟩
end Go.Proofs.Ytigambcefdeaoaa
