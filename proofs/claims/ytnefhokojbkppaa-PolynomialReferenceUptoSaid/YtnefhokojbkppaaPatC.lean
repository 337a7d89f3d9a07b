/-
  What pat and Pattern of chapter 18 do: a pattern of sums and products.
-/
import Derived.Test.YtnefhokojbkppaaPtV
namespace Go.Proofs.Ytnefhokojbkppaa
open Go.RowKit

/-- A pattern of sums and products over n variables. -/
inductive PolyPt (n : Int) : Pt → Prop
  | var (v : Int) : 1 ≤ v → v ≤ n → PolyPt n (.mk v 0 0 0 [])
  | const (i : Int) : I64 i → PolyPt n (.mk 0 1 i 0 [])
  | shl (a : Pt) (i : Int) : I64 i → PolyPt n a → PolyPt n (.mk 0 12 0 0 [a, .mk 0 1 i 0 []])
  | un (op : Int) (a : Pt) : op = 20 ∨ op = 21 → PolyPt n a → PolyPt n (.mk 0 op 0 0 [a])
  | bin (op : Int) (a b : Pt) : op = 4 ∨ op = 5 ∨ op = 6 → PolyPt n a → PolyPt n b → PolyPt n (.mk 0 op 0 0 [a, b])
/-- The reader in block p; what it has still to read. -/
def Rd (w : World) (F : Nat → Prop) (p : Nat) (xs : List Int) : Prop := ∃ A c lp, Blk w p 54 #[.slice A xs.length c, lp] ∧ Ints w F A xs ∧ xs.length ≤ c ∧ ∀ x ∈ xs, I64 x
theorem Rd.upd {w w' : World} {F S : Nat → Prop} {p : Nat} {xs : List Int} (h : Rd w F p xs) (u : Upd S w w') (d : ∀ k, k < w.heap.size → F k → ¬ S k) (hp : ¬ S p) : Rd w' F p xs := by
  obtain ⟨A, c, lp, h1, h2, h3⟩ := h
  exact ⟨A, c, lp, h1.upd u hp, h2.upd u d, h3⟩
theorem Rd.mono {w : World} {F G : Nat → Prop} {p : Nat} {xs : List Int} (h : Rd w F p xs) (d : ∀ k, k < w.heap.size → F k → G k) : Rd w G p xs := by
  obtain ⟨A, c, lp, h1, h2, h3⟩ := h
  exact ⟨A, c, lp, h1, h2.mono d, h3⟩
theorem Rd.lt {w : World} {F : Nat → Prop} {p : Nat} {xs : List Int} (h : Rd w F p xs) : p < w.heap.size := by obtain ⟨_, _, _, h1, _⟩ := h; exact h1.lt
theorem Rd.i64 {w : World} {F : Nat → Prop} {p : Nat} {xs : List Int} (h : Rd w F p xs) : I64 (xs.headD 0) := by
  obtain ⟨_, _, _, _, _, _, h⟩ := h
  cases xs with
  | nil => show I64 0; unfold I64; omega
  | cons x xs => exact h x (by simp)
theorem rdNext_c {w : World} {F : Nat → Prop} {p : Nat} {xs : List Int} (hF : ∀ k, F k → k ≠ p) (h : Rd w F p xs) :
    Calls Try.prog 34 #[.pointer (some ⟨p, 0, none⟩)] w fun e w' => e = .returned (.int .i64 (xs.headD 0)) ∧ Rd w' F p xs.tail ∧ Upd (· = p) w w' := by
  obtain ⟨A, c, lp, h1, h2, h3, h4⟩ := h
  refine (next_c w p A c xs lp F hF h1 h2 h3).mono ?_
  rintro e w' ⟨rfl, A', c', g1, g2, g3, g4⟩
  exact ⟨rfl, ⟨A', c', lp, g1, g2, g3, fun x hx => h4 x (List.mem_of_mem_tail hx)⟩, g4⟩

/-- The five cells of a pattern, stored one after the other. -/
def set5 (w : World) (g : Nat) (a b c d e : Value) : World := ((((w.setCell ⟨g, 0, none⟩ a).setCell ⟨g, 1, none⟩ b).setCell ⟨g, 2, none⟩ c).setCell ⟨g, 3, none⟩ d).setCell ⟨g, 4, none⟩ e
theorem set5_blk {w : World} {g : Nat} {x0 x1 x2 x3 x4 : Value} (h : Blk w g 24 #[x0, x1, x2, x3, x4]) (a b c d e : Value) : Blk (set5 w g a b c d e) g 24 #[a, b, c, d, e] := by
  have h1 := ((((h.set_ 0 a).set_ 1 b).set_ 2 c).set_ 3 d).set_ 4 e
  simpa [set5] using h1
theorem set5_upd (w : World) (g : Nat) (a b c d e : Value) : Upd (· = g) w (set5 w g a b c d e) :=
  ((((Upd.refl.setCell (S := (· = g)) (p := ⟨g, 0, none⟩) (.inl rfl) _).setCell (p := ⟨g, 1, none⟩) (.inl rfl) _).setCell (p := ⟨g, 2, none⟩) (.inl rfl) _).setCell (p := ⟨g, 3, none⟩) (.inl rfl) _).setCell (p := ⟨g, 4, none⟩) (.inl rfl) _
theorem wordF_i64 (n : Int) {x : Int} (h : I64 x) : I64 (wordF n x) := by
  unfold wordF
  split
  · have h1 : ∀ k : Fin 10, I64 (edgesF.getD k.val 0) := by unfold I64; decide +kernel
    have h0 : 0 ≤ n % 24 := Int.emod_nonneg _ (by omega)
    exact h1 ⟨(n % 24).toNat, by omega⟩
  · split
    · unfold I64; omega
    · exact h
theorem set5_eq (w : World) (g : Nat) (a b c d e : Value) : ((((w.setCell ⟨g, 0, none⟩ a).setCell ⟨g, 1, none⟩ b).setCell ⟨g, 2, none⟩ c).setCell ⟨g, 3, none⟩ d).setCell ⟨g, 4, none⟩ e = set5 w g a b c d e := rfl

set_option maxRecDepth 100000 in
set_option maxHeartbeats 4000000 in
theorem pat_c (n : Nat) (h1 : 1 ≤ n) (h2 : n ≤ 1000) : ∀ (f : Nat), f ≤ 4 → ∀ (w : World) (F : Nat → Prop) (p : Nat) (xs : List Int), (∀ k, F k → k ≠ p) → Rd w F p xs →
    Calls Try.prog 28 #[.pointer (some ⟨p, 0, none⟩), .int .i64 (4 - f : Nat), .int .i64 n] w fun e w' => ∃ (q : Pt) (KA : Option Addr) (kc : Nat) (ys : List Int), e = .returned (pv q KA kc) ∧ PolyPt n q ∧ q.size + 2 ≤ 4 * 2 ^ f ∧ PtK w' (fun k => w.heap.size ≤ k) q KA kc ∧ Rd w' F p ys ∧ Upd (· = p) w w' := by
  intro f
  induction f with
  | zero =>
    intro _ w F p xs hF hr
    have hlt := hr.lt
    have hFF : ∀ k, (F k ∧ k < w.heap.size) → k ≠ p := fun k h => hF k h.1
    have hrF := hr.mono (G := fun k => F k ∧ k < w.heap.size) (fun k hk h => ⟨h, hk⟩)
    obtain ⟨W, HW⟩ := nm (w.alloc (.cells #[.int .i64 0, .int .i64 0, .int .i64 0, .int .i64 0, .slice none 0 0] 24))
    have hU : Upd Non w W := by rw [← HW.out]; exact Upd.refl.alloc _
    have hb : Blk W w.heap.size 24 #[.int .i64 0, .int .i64 0, .int .i64 0, .int .i64 0, .slice none 0 0] := by rw [← HW.out]; exact Blk.new _ _ _
    have e0 := HW.out
    have C1 := Lib.hid (rdNext_c hFF (hrF.upd hU (fun _ _ _ f => f) (fun f => f)))
    clear hr hrF
    go_enter Try.func28, Try.ntmps28
    go_wp2_with fail
    refine C1.out.mono ?_
    rintro e w2 ⟨rfl, hr2, hu2⟩
    obtain ⟨x, Hx⟩ := nm (xs.headD 0)
    rw [Hx.out]
    obtain ⟨z, Hz⟩ := nm (wrap64 (x.tdiv 11))
    have ez := Hz.out
    have C2 := Lib.hid (pick_c x 11 w2 (by omega) (by omega))
    have C3 := Lib.hid (pick_c z 1000 w2 (by omega) (by omega))
    obtain ⟨k, Hk⟩ := nm (x % 11)
    obtain ⟨m, hm⟩ : ∃ m : Nat, z % 1000 = (m : Int) := Int.eq_ofNat_of_zero_le (by omega)
    have hm1 : m < 1000 := by omega
    rw [Hk.out] at C2
    rw [hm] at C3
    clear hm
    go_wp2_with fail
    refine C2.out.mono ?_
    rintro e w3 ⟨rfl, rfl⟩
    go_wp2_with fail
    refine C3.out.mono ?_
    rintro e w3 ⟨rfl, rfl⟩
    have hb2 := hb.upd hu2 (by omega)
    have c0 := hb2.cell 0
    have c1 := hb2.cell 1
    have c2 := hb2.cell 2
    have c3 := hb2.cell 3
    have c4 := hb2.cell 4
    have f0 := hb2.frozen
    have hmn0 : 0 ≤ (m : Int) % (n : Int) := Int.emod_nonneg _ (by omega)
    have hmn : (m : Int) % (n : Int) < n := Int.emod_lt_of_pos _ (by omega)
    have hv : wrap64 (1 + (m : Int) % (n : Int)) = 1 + (m : Int) % (n : Int) := by unfold wrap64; omega
    go_wp2_with fail
    rw [set5_eq]
    refine bodyPost_ret (results_cell_row rfl _ _ w.heap.size 24 _ (0, 0) _ rfl (set5_blk hb2 _ _ _ _ _) Try.underlying24 rfl (by kernel_rfl)) rfl ?_
    have HU := ((hU.mono (T := (· = p)) (fun _ _ f => f.elim)).trans hu2 (fun _ _ h => h)).trans (set5_upd w2 w.heap.size (.int .i64 (1 + (m : Int) % (n : Int))) (.int .i64 0) (.int .i64 0) (.int .i64 0) (.slice none 0 0)) (fun i hi e => by omega)
    exact ⟨.mk (1 + (m : Int) % (n : Int)) 0 0 0 [], none, 0, xs.tail, rfl, .var _ (by omega) (by omega), by rw [Pt.size_leaf]; decide, PtK.leaf, (hr2.upd (set5_upd _ _ _ _ _ _ _) (fun k hk q e => by have := q.2; omega) (by omega)).mono (fun k _ h => h.1), HU⟩
  | succ f ih =>
    intro hf4 w F p xs hF hr
    have HI := Lib.hid (ih (by omega))
    have hlt := hr.lt
    have HX := Lib.hid hr.i64
    have hFF : ∀ k, (F k ∧ k < w.heap.size) → k ≠ p := fun k h => hF k h.1
    have hrF := hr.mono (G := fun k => F k ∧ k < w.heap.size) (fun k hk h => ⟨h, hk⟩)
    obtain ⟨W, HW⟩ := nm (w.alloc (.cells #[.int .i64 0, .int .i64 0, .int .i64 0, .int .i64 0, .slice none 0 0] 24))
    have hU : Upd Non w W := by rw [← HW.out]; exact Upd.refl.alloc _
    have hb : Blk W w.heap.size 24 #[.int .i64 0, .int .i64 0, .int .i64 0, .int .i64 0, .slice none 0 0] := by rw [← HW.out]; exact Blk.new _ _ _
    have hsW : W.heap.size = w.heap.size + 1 := by rw [← HW.out]; simp
    have e0 := HW.out
    have C1 := Lib.hid (rdNext_c hFF (hrF.upd hU (fun _ _ _ f => f) (fun f => f)))
    obtain ⟨dp, Hdp⟩ := nm (4 - (f + 1))
    have hdp : dp + 1 = 4 - f := by rw [← Hdp.out]; omega
    have hd3 : dp ≤ 3 := by omega
    have HDP := Lib.hid hdp
    rw [Hdp.out]
    rw [← hdp] at HI
    have hPW : 1 ≤ 2 ^ f := Nat.one_le_two_pow
    have HPW := Lib.hid hPW
    clear hr hrF ih hdp hPW
    go_enter Try.func28, Try.ntmps28
    go_wp2_with fail
    refine C1.out.mono ?_
    rintro e w2 ⟨rfl, hr2, hu2⟩
    obtain ⟨x, Hx⟩ := nm (xs.headD 0)
    rw [Hx.out]
    rw [Hx.out] at HX
    obtain ⟨z, Hz⟩ := nm (wrap64 (x.tdiv 11))
    have ez := Hz.out
    have C2 := Lib.hid (pick_c x 11 w2 (by omega) (by omega))
    have C3 := Lib.hid (pick_c z 1000 w2 (by omega) (by omega))
    obtain ⟨k, Hk⟩ := nm (x % 11)
    have k0 : 0 ≤ k ∧ k < 11 := by rw [← Hk.out]; omega
    obtain ⟨m, hm⟩ : ∃ m : Nat, z % 1000 = (m : Int) := Int.eq_ofNat_of_zero_le (by omega)
    have hm1 : m < 1000 := by omega
    rw [Hk.out] at C2
    rw [hm] at C3
    clear hm
    go_wp2_with fail
    refine C2.out.mono ?_
    rintro e w3 ⟨rfl, rfl⟩
    go_wp2_with fail
    refine C3.out.mono ?_
    rintro e w3 ⟨rfl, rfl⟩
    have hb2 := hb.upd hu2 (by omega)
    have HU2 : Upd (· = p) w w2 := (hU.mono (T := (· = p)) (fun _ _ f => f.elim)).trans hu2 (fun _ _ h => h)
    have t0 : decide ((dp : Int) > 3) = false := decide_eq_false (by omega)
    have hs2 := hu2.size
    have hw64 : wrap64 ((dp : Int) + 1) = ((dp + 1 : Nat) : Int) := by unfold wrap64; omega
    have HW64 := Lib.hid hw64
    have HS2 := Lib.hid hs2
    have HSW := Lib.hid hsW
    have HK0 := Lib.hid k0
    have HD3 := Lib.hid hd3
    clear hb hU C1 C2 C3 hw64 hs2 hsW k0 hf4
    by_cases q2 : k < 2
    · have c0 := hb2.cell 0
      have c1 := hb2.cell 1
      have c2 := hb2.cell 2
      have c3 := hb2.cell 3
      have c4 := hb2.cell 4
      have f0 := hb2.frozen
      have hmn0 : 0 ≤ (m : Int) % (n : Int) := Int.emod_nonneg _ (by omega)
      have hmn : (m : Int) % (n : Int) < n := Int.emod_lt_of_pos _ (by omega)
      have hv : wrap64 (1 + (m : Int) % (n : Int)) = 1 + (m : Int) % (n : Int) := by unfold wrap64; omega
      have t1 : decide (k < 2) = true := decide_eq_true q2
      clear q2
      go_wp2_with fail
      rw [set5_eq]
      refine bodyPost_ret (results_cell_row rfl _ _ w.heap.size 24 _ (0, 0) _ rfl (set5_blk hb2 _ _ _ _ _) Try.underlying24 rfl (by kernel_rfl)) rfl ?_
      have HU := HU2.trans (set5_upd w2 w.heap.size (.int .i64 (1 + (m : Int) % (n : Int))) (.int .i64 0) (.int .i64 0) (.int .i64 0) (.slice none 0 0)) (fun i hi e => by omega)
      have hPW := HPW.out
      exact ⟨.mk (1 + (m : Int) % (n : Int)) 0 0 0 [], none, 0, xs.tail, rfl, .var _ (by omega) (by omega), by rw [Pt.size_leaf, Nat.pow_succ]; omega, PtK.leaf, (hr2.upd (set5_upd _ _ _ _ _ _ _) (fun k hk q e => by have := q.2; omega) (by omega)).mono (fun k _ h => h.1), HU⟩
    · have t1 : decide (k < 2) = false := decide_eq_false q2
      by_cases q4 : k < 4
      · have t2 : decide (k < 4) = true := decide_eq_true q4
        have CW := Lib.hid (word_c w2 m x (by unfold I64; omega))
        have HWD := Lib.hid (wordF_i64 m HX.out)
        obtain ⟨wd, Hwd⟩ := nm (wordF m x)
        rw [Hwd.out] at HWD
        rw [Hwd.out] at CW
        clear q2 q4
        go_wp2_with fail
        refine CW.out.mono ?_
        rintro e w3 ⟨rfl, hu3⟩
        have hb3 := hb2.upd hu3 (fun f => f)
        have c0 := hb3.cell 0
        have c1 := hb3.cell 1
        have c2 := hb3.cell 2
        have c3 := hb3.cell 3
        have c4 := hb3.cell 4
        have f0 := hb3.frozen
        go_wp2_with fail
        rw [set5_eq]
        refine bodyPost_ret (results_cell_row rfl _ _ w.heap.size 24 _ (0, 0) _ rfl (set5_blk hb3 _ _ _ _ _) Try.underlying24 rfl (by kernel_rfl)) rfl ?_
        have HU := (HU2.then_non hu3).trans (set5_upd w3 w.heap.size (.int .i64 0) (.int .i64 1) (.int .i64 wd) (.int .i64 0) (.slice none 0 0)) (fun i hi e => by omega)
        have hPW := HPW.out
        exact ⟨.mk 0 1 wd 0 [], none, 0, xs.tail, rfl, .const _ HWD.out, by rw [Pt.size_leaf, Nat.pow_succ]; omega, PtK.leaf, ((hr2.upd hu3 (fun _ _ _ f => f) (fun f => f)).upd (set5_upd _ _ _ _ _ _ _) (fun k hk q e => by have := q.2; omega) (by omega)).mono (fun k _ h => h.1), HU⟩
      · have t2 : decide (k < 4) = false := decide_eq_false q4
        have CR := Lib.hid (fun (w' : World) (u : Upd Non w2 w') => HI.out w' _ p xs.tail hFF (hr2.upd u (fun _ _ _ f => f) (fun f => f)))
        by_cases q5 : k < 5
        · have t3 : decide (k < 5) = true := decide_eq_true q5
          have hw64 := HW64.out
          have hi2 : wrap64 ((m : Int) % 70 - 2) = (m : Int) % 70 - 2 := by unfold wrap64; omega
          clear q2 q4 q5
          go_wp2_with fail
          refine (CR.out _ Upd.refl).mono ?_
          rintro e w3 ⟨q, KA, kc, ys, rfl, hq, hqs, hqk, hr3, hu3⟩
          unfold pv
          obtain ⟨W5, HW5⟩ := nm (w3.alloc (.cells #[.int .i64 q.v, .int .i64 q.op, .int .i64 q.imm, .int .i64 q.iv, .slice KA q.kids.length kc, .int .i64 0, .int .i64 1, .int .i64 ((m : Int) % 70 - 2), .int .i64 0, .slice none 0 0] 24))
          have e5 := HW5.out
          have hu5 : Upd Non w3 W5 := by rw [← e5]; exact Upd.refl.alloc _
          have hk5 : Blk W5 w3.heap.size 24 #[.int .i64 q.v, .int .i64 q.op, .int .i64 q.imm, .int .i64 q.iv, .slice KA q.kids.length kc, .int .i64 0, .int .i64 1, .int .i64 ((m : Int) % 70 - 2), .int .i64 0, .slice none 0 0] := by rw [← e5]; exact Blk.new _ _ _
          have hb3 := (hb2.upd hu3 (by omega)).upd hu5 (fun f => f)
          have hr5 := hr3.upd hu5 (fun _ _ _ f => f) (fun f => f)
          have hq5 := PtK.upd hu5 (fun _ _ _ f => f) q KA kc hqk
          have c0 := hb3.cell 0
          have c1 := hb3.cell 1
          have c2 := hb3.cell 2
          have c3 := hb3.cell 3
          have c4 := hb3.cell 4
          have f0 := hb3.frozen
          have hu35 : Upd (· = p) w2 W5 := hu3.then_non hu5
          have hs3 := Lib.hid hu3.size
          have HQS := Lib.hid hqs
          clear hqs hqk hr3 hu3 hu5
          go_wp2_with fail
          rw [set5_eq]
          refine bodyPost_ret (results_cell_row rfl _ _ w.heap.size 24 _ (0, 0) _ rfl (set5_blk hb3 _ _ _ _ _) Try.underlying24 rfl (by kernel_rfl)) rfl ?_
          have u6 := set5_upd W5 w.heap.size (.int .i64 0) (.int .i64 12) (.int .i64 0) (.int .i64 0) (.slice (some ⟨w3.heap.size, 0, none⟩) 2 2)
          have hs2 := HS2.out
          have hsW := HSW.out
          have hs3 := hs3.out
          have hk6 := hk5.upd u6 (by omega)
          have hq6 := (PtK.upd u6 (fun k _ h e => by omega) q KA kc hq5).mono (G := fun k => w.heap.size ≤ k) (fun k _ h => by omega) q KA kc
          have hqs := HQS.out
          have HPW := HPW.out
          refine ⟨.mk 0 12 0 0 [q, .mk 0 1 ((m : Int) % 70 - 2) 0 []], some ⟨w3.heap.size, 0, none⟩, 2, ys, rfl, .shl q _ (by unfold I64; omega) hq, ?_, ?_, (hr5.upd u6 (fun k hk q e => by have := q.2; omega) (by omega)).mono (fun k _ h => h.1), (HU2.trans hu35 (fun _ _ h => h)).trans u6 (fun i hi e => by omega)⟩
          · rw [Pt.size_two, Pt.size_leaf, Nat.pow_succ]; omega
          · exact PtK.two _ _ _ _ hk6 hq6 PtK.leaf (by omega) (by omega)
        · have t3 : decide (k < 5) = false := decide_eq_false q5
          have hw64 := HW64.out
          have hwk : IntKind.i64.wrap ((dp : Int) + 1) = ((dp + 1 : Nat) : Int) := by have h := hw64; unfold wrap64 at h; simp only [IntKind.wrap_i64]; omega
          by_cases q6 : k < 6
          · have t4 : decide (k < 6) = true := decide_eq_true q6
            obtain ⟨r, hma, hmb, hmc, hmd⟩ : ∃ r : Nat, (m : Int).tmod 2 = (r : Int) ∧ (m : Int) % 2 = (r : Int) ∧ r < 2 ∧ (r : Int) < 2 := ⟨m % 2, by rw [Int.tmod_eq_emod_of_nonneg (by omega)]; omega, by omega, by omega, by omega⟩
            clear q2 q4 q5 q6
            obtain ⟨op, hop, hop2⟩ : ∃ op : Int, (#[.int .i64 20, .int .i64 21] : Array Value)[r]? = some (.int .i64 op) ∧ (op = 20 ∨ op = 21) := by
              have : r = 0 ∨ r = 1 := by omega
              rcases this with rfl | rfl
              all_goals exact ⟨_, rfl, by simp⟩
            have HOP := Lib.hid hop
            have HOP2 := Lib.hid hop2
            have HB2 := Lib.hid (show w.heap.size < w2.heap.size by have := HSW.out; have := HS2.out; omega)
            clear hop hop2 hm1
            go_wp2_with fail
            obtain ⟨wD, HwD⟩ := nm w2.drew
            have uD : Upd Non w2 wD := by rw [← HwD.out]; exact Upd.refl.drew
            have hbD := hb2.upd uD (fun f => f)
            have hrD := hr2.upd uD (fun _ _ _ f => f) (fun f => f)
            have uDp : Upd (· = p) w2 wD := uD.mono (fun _ _ f => f.elim)
            refine wp_region_held_drew (S := fun _ => True) (by kernel_rfl) trivial (fun hHeld => ?_)
            rw [HwD.out]
            clear hb2 uD
            refine wpAnyH_take (i := 1) (v := ?_) rfl (by kernel_rfl) (by kernel_rfl) (by kernel_rfl) (fun _ _ _ h => h) (Or.inl ⟨by rfl, ?_⟩) (by assumption) ?_
            rotate_left
            · intro w hSw; (try dsimp only at hSw); go_simp; try with_reducible rfl
            try simp only [put_y]
            try simp only [Act.put]
            try simp only [put_z]
            refine wpAnyH_take (i := 2) (v := ?_) rfl (by kernel_rfl) (by kernel_rfl) (by kernel_rfl) (fun _ _ _ h => h) (Or.inl ⟨by rfl, ?_⟩) (by assumption) ?_
            rotate_left
            · intro w hSw; (try dsimp only at hSw); go_simp; try with_reducible rfl
            try simp only [put_y]
            try simp only [Act.put]
            try simp only [put_z]
            refine wpAnyH_take (i := 5) (v := ?_) rfl (by kernel_rfl) (by kernel_rfl) (by kernel_rfl) (fun _ _ _ h => h) (Or.inl ⟨by rfl, ?_⟩) (by assumption) ?_
            rotate_left
            · intro w hSw; (try dsimp only at hSw); go_simp; try with_reducible rfl
            try simp only [put_y]
            try simp only [Act.put]
            try simp only [put_z]
            refine wpAnyH_take (i := 6) (v := ?_) rfl (by kernel_rfl) (by kernel_rfl) (by kernel_rfl) (fun _ _ _ h => h) (Or.inl ⟨by rfl, ?_⟩) (by assumption) ?_
            rotate_left
            · intro w hSw; (try dsimp only at hSw); go_simp; try with_reducible rfl
            try simp only [put_y]
            try simp only [Act.put]
            try simp only [put_z]
            refine wpAnyH_take (i := 7) (v := ?_) rfl (by kernel_rfl) (by kernel_rfl) (by kernel_rfl) (fun _ _ _ h => h) (Or.inl ⟨by rfl, ?_⟩) (by assumption) ?_
            rotate_left
            · intro w hSw; (try dsimp only at hSw); go_simp; try with_reducible rfl
            try simp only [put_y]
            try simp only [Act.put]
            try simp only [put_z]
            refine wpAnyH_take (i := 8) (v := ?_) rfl (by kernel_rfl) (by kernel_rfl) (by kernel_rfl) (fun _ _ _ h => h) (Or.inl ⟨by rfl, ?_⟩) (by assumption) ?_
            rotate_left
            · intro w hSw; (try dsimp only at hSw); go_simp; try with_reducible rfl
            try simp only [put_y]
            try simp only [Act.put]
            try simp only [put_z]
            refine wpAnyH_ready (rs := [0, 9]) (by kernel_rfl) (by simp) ?_
            refine (AllReadyH.cons rfl (fun K hK => ?_) (AllReadyH.cons rfl (fun K hK => ?_) AllReadyH.nil))
            ·
              obtain ⟨Wa1, HWa1⟩ := nm (wD.alloc (.cells #[.int .i64 20, .int .i64 21] 3))
              have eWa1 := HWa1.out
              have u1 : Upd Non wD Wa1 := by rw [← eWa1]; exact Upd.refl.alloc _
              have hi1 : Wa1.cell? ⟨wD.heap.size, r, none⟩ = some (.int .i64 op) := by rw [← eWa1, (Blk.new wD 3 #[.int .i64 20, .int .i64 21]).cell]; exact HOP.out
              have hg1 : wD.heap.size ≠ p := by have := hrD.lt; omega
              have hb1 := hbD.upd u1 (fun f => f)
              have hr1 := hrD.upd u1 (fun _ _ _ f => f) (fun f => f)
              have hU1 := uDp.then_non u1
              clear HWa1
              go_simp
              refine hK.out _ _ trivial (fun _ => ?_)
              clear hK K
              try simp only [put_y]
              try simp only [Act.put]
              try simp only [put_z]
              refine wpAnyH_take (i := 3) (v := ?_) rfl (by kernel_rfl) (by kernel_rfl) (by kernel_rfl) (fun _ _ _ h => h) (Or.inl ⟨by rfl, ?_⟩) (by assumption) ?_
              rotate_left
              · intro w hSw; (try dsimp only at hSw); go_simp; try with_reducible rfl
              try simp only [put_y]
              try simp only [Act.put]
              try simp only [put_z]
              refine wpAnyH_ready (rs := [4, 9]) (by kernel_rfl) (by simp) ?_
              refine (AllReadyH.cons rfl (fun K hK => ?_) (AllReadyH.cons rfl (fun K hK => ?_) AllReadyH.nil))
              ·
                go_simp
                refine hK.out _ _ trivial (fun _ => ?_)
                clear hK K
                try simp only [put_y]
                try simp only [Act.put]
                try simp only [put_z]
                refine wpAnyH_ready (rs := [9]) (by kernel_rfl) (by simp) ?_
                refine (AllReadyH.cons rfl (fun K hK => ?_) AllReadyH.nil)
                have CC := Lib.hid (HI.out Wa1 _ p _ hFF hr1)
                unfold pv at CC
                go_simp
                try rw [hwk]
                refine CC.out.mono ?_
                rintro e Wc3 ⟨q0, K0, c0, y0, rfl, hq0, hs0, hk0_3, hr3, u3⟩
                clear CC
                have HS0 := Lib.hid hs0
                have Hq0 := Lib.hid hq0
                have hz3 := u3.size
                have hb3 := hb1.upd u3 (by omega)
                have hi3 := cell_upd hi1 u3 hg1
                have hU3 := hU1.trans u3 (fun _ _ h => h)
                have hk0_3 := PtK.mono (G := fun k => w.heap.size < k) (fun k _ h => by have := HB2.out; have := hU1.size; omega) _ _ _ hk0_3
                clear hs0 hq0 hz3
                go_wp2_with fail
                refine hK.out _ _ trivial (fun _ => ?_)
                clear hK K
                try simp only [put_y]
                try simp only [Act.put]
                try simp only [put_z]
                refine wpAnyH_ready (rs := [10]) (by kernel_rfl) (by simp) ?_
                refine (AllReadyH.cons rfl (fun K hK => ?_) AllReadyH.nil)
                obtain ⟨Wb4, HWb4⟩ := nm (Wc3.alloc (.cells #[.int .i64 q0.v, .int .i64 q0.op, .int .i64 q0.imm, .int .i64 q0.iv, .slice K0 q0.kids.length c0] 24))
                have eWb4 := HWb4.out
                have u4 : Upd Non Wc3 Wb4 := by rw [← eWb4]; exact Upd.refl.alloc _
                have h5_4 : Blk Wb4 Wc3.heap.size 24 #[.int .i64 q0.v, .int .i64 q0.op, .int .i64 q0.imm, .int .i64 q0.iv, .slice K0 q0.kids.length c0] := by rw [← eWb4]; exact Blk.new _ _ _
                have HZ := Lib.hid (hU3.size)
                have hb4 := hb3.upd u4 (fun f => f)
                have hr4 := hr3.upd u4 (fun _ _ _ f => f) (fun f => f)
                have hU4 := hU3.then_non u4
                have hk0_4 := PtK.upd u4 (fun _ _ _ f => f) _ _ _ hk0_3
                have hi4 := cell_upd hi3 u4 (fun f => f)
                clear HWb4
                go_simp
                refine hK.out _ _ trivial (fun _ => ?_)
                clear hK K
                try simp only [put_y]
                try simp only [Act.put]
                try simp only [put_z]
                refine wpAnyH_take (i := 11) (v := ?_) rfl (by kernel_rfl) (by kernel_rfl) (by kernel_rfl) (fun _ _ _ h => h) (Or.inl ⟨by rfl, ?_⟩) (by assumption) ?_
                rotate_left
                · intro w hSw; (try dsimp only at hSw); go_simp; try with_reducible rfl
                try simp only [put_y]
                try simp only [Act.put]
                try simp only [put_z]
                refine wpAnyH_ready (rs := [12]) (by kernel_rfl) (by simp) ?_
                refine (AllReadyH.cons rfl (fun K hK => ?_) AllReadyH.nil)
                have c0_ := hb4.cell 0
                have c1_ := hb4.cell 1
                have c2_ := hb4.cell 2
                have c3_ := hb4.cell 3
                have c4_ := hb4.cell 4
                have f0 := hb4.frozen
                go_simp
                refine hK.out _ _ trivial (fun _ => ?_)
                clear hK K
                try simp only [put_y]
                try simp only [Act.put]
                try simp only [put_z]
                refine wpAnyH_done (by kernel_rfl) ?_ _
                go_wp2_with fail
                rw [set5_eq]
                refine bodyPost_ret (results_cell_row rfl _ _ w.heap.size 24 _ (0, 0) _ rfl (set5_blk hb4 _ _ _ _ _) Try.underlying24 rfl (by kernel_rfl)) rfl ?_
                have u6 := set5_upd Wb4 w.heap.size (.int .i64 0) (.int .i64 op) (.int .i64 0) (.int .i64 0) (.slice (some ⟨Wc3.heap.size, 0, none⟩) 1 1)
                have hs2 := HB2.out
                have hz := HZ.out
                have hk6 := h5_4.upd u6 (by omega)
                have hk06 := (PtK.upd u6 (fun k _ h e => by omega) _ _ _ hk0_4).mono (G := fun k => w.heap.size ≤ k) (fun k _ h => by omega) _ _ _
                have hs0 := HS0.out
                refine ⟨.mk 0 op 0 0 [q0], some ⟨Wc3.heap.size, 0, none⟩, 1, _, rfl, .un op _ HOP2.out Hq0.out, ?_, ?_, (hr4.upd u6 (fun k hk q e => by have := q.2; omega) (by omega)).mono (fun k _ h => h.1), (HU2.trans hU4 (fun _ _ h => h)).trans u6 (fun i hi e => by omega)⟩
                · rw [Pt.size_one, Nat.pow_succ]; have := HPW.out; omega
                · exact PtK.one _ _ _ _ hk6 hk06 (by omega) (by omega)
              ·
                have CC := Lib.hid (HI.out Wa1 _ p _ hFF hr1)
                unfold pv at CC
                go_simp
                try rw [hwk]
                refine CC.out.mono ?_
                rintro e Wc5 ⟨q0, K0, c0, y0, rfl, hq0, hs0, hk0_5, hr5, u5⟩
                clear CC
                have HS0 := Lib.hid hs0
                have Hq0 := Lib.hid hq0
                have hz5 := u5.size
                have hb5 := hb1.upd u5 (by omega)
                have hi5 := cell_upd hi1 u5 hg1
                have hU5 := hU1.trans u5 (fun _ _ h => h)
                have hk0_5 := PtK.mono (G := fun k => w.heap.size < k) (fun k _ h => by have := HB2.out; have := hU1.size; omega) _ _ _ hk0_5
                clear hs0 hq0 hz5
                go_wp2_with fail
                refine hK.out _ _ trivial (fun _ => ?_)
                clear hK K
                try simp only [put_y]
                try simp only [Act.put]
                try simp only [put_z]
                refine wpAnyH_ready (rs := [4, 10]) (by kernel_rfl) (by simp) ?_
                refine (AllReadyH.cons rfl (fun K hK => ?_) (AllReadyH.cons rfl (fun K hK => ?_) AllReadyH.nil))
                ·
                  go_simp
                  refine hK.out _ _ trivial (fun _ => ?_)
                  clear hK K
                  try simp only [put_y]
                  try simp only [Act.put]
                  try simp only [put_z]
                  refine wpAnyH_ready (rs := [10]) (by kernel_rfl) (by simp) ?_
                  refine (AllReadyH.cons rfl (fun K hK => ?_) AllReadyH.nil)
                  obtain ⟨Wb7, HWb7⟩ := nm (Wc5.alloc (.cells #[.int .i64 q0.v, .int .i64 q0.op, .int .i64 q0.imm, .int .i64 q0.iv, .slice K0 q0.kids.length c0] 24))
                  have eWb7 := HWb7.out
                  have u7 : Upd Non Wc5 Wb7 := by rw [← eWb7]; exact Upd.refl.alloc _
                  have h5_7 : Blk Wb7 Wc5.heap.size 24 #[.int .i64 q0.v, .int .i64 q0.op, .int .i64 q0.imm, .int .i64 q0.iv, .slice K0 q0.kids.length c0] := by rw [← eWb7]; exact Blk.new _ _ _
                  have HZ := Lib.hid (hU5.size)
                  have hb7 := hb5.upd u7 (fun f => f)
                  have hr7 := hr5.upd u7 (fun _ _ _ f => f) (fun f => f)
                  have hU7 := hU5.then_non u7
                  have hk0_7 := PtK.upd u7 (fun _ _ _ f => f) _ _ _ hk0_5
                  have hi7 := cell_upd hi5 u7 (fun f => f)
                  clear HWb7
                  go_simp
                  refine hK.out _ _ trivial (fun _ => ?_)
                  clear hK K
                  try simp only [put_y]
                  try simp only [Act.put]
                  try simp only [put_z]
                  refine wpAnyH_take (i := 11) (v := ?_) rfl (by kernel_rfl) (by kernel_rfl) (by kernel_rfl) (fun _ _ _ h => h) (Or.inl ⟨by rfl, ?_⟩) (by assumption) ?_
                  rotate_left
                  · intro w hSw; (try dsimp only at hSw); go_simp; try with_reducible rfl
                  try simp only [put_y]
                  try simp only [Act.put]
                  try simp only [put_z]
                  refine wpAnyH_ready (rs := [12]) (by kernel_rfl) (by simp) ?_
                  refine (AllReadyH.cons rfl (fun K hK => ?_) AllReadyH.nil)
                  have c0_ := hb7.cell 0
                  have c1_ := hb7.cell 1
                  have c2_ := hb7.cell 2
                  have c3_ := hb7.cell 3
                  have c4_ := hb7.cell 4
                  have f0 := hb7.frozen
                  go_simp
                  refine hK.out _ _ trivial (fun _ => ?_)
                  clear hK K
                  try simp only [put_y]
                  try simp only [Act.put]
                  try simp only [put_z]
                  refine wpAnyH_done (by kernel_rfl) ?_ _
                  go_wp2_with fail
                  rw [set5_eq]
                  refine bodyPost_ret (results_cell_row rfl _ _ w.heap.size 24 _ (0, 0) _ rfl (set5_blk hb7 _ _ _ _ _) Try.underlying24 rfl (by kernel_rfl)) rfl ?_
                  have u6 := set5_upd Wb7 w.heap.size (.int .i64 0) (.int .i64 op) (.int .i64 0) (.int .i64 0) (.slice (some ⟨Wc5.heap.size, 0, none⟩) 1 1)
                  have hs2 := HB2.out
                  have hz := HZ.out
                  have hk6 := h5_7.upd u6 (by omega)
                  have hk06 := (PtK.upd u6 (fun k _ h e => by omega) _ _ _ hk0_7).mono (G := fun k => w.heap.size ≤ k) (fun k _ h => by omega) _ _ _
                  have hs0 := HS0.out
                  refine ⟨.mk 0 op 0 0 [q0], some ⟨Wc5.heap.size, 0, none⟩, 1, _, rfl, .un op _ HOP2.out Hq0.out, ?_, ?_, (hr7.upd u6 (fun k hk q e => by have := q.2; omega) (by omega)).mono (fun k _ h => h.1), (HU2.trans hU7 (fun _ _ h => h)).trans u6 (fun i hi e => by omega)⟩
                  · rw [Pt.size_one, Nat.pow_succ]; have := HPW.out; omega
                  · exact PtK.one _ _ _ _ hk6 hk06 (by omega) (by omega)
                ·
                  obtain ⟨Wb8, HWb8⟩ := nm (Wc5.alloc (.cells #[.int .i64 q0.v, .int .i64 q0.op, .int .i64 q0.imm, .int .i64 q0.iv, .slice K0 q0.kids.length c0] 24))
                  have eWb8 := HWb8.out
                  have u8 : Upd Non Wc5 Wb8 := by rw [← eWb8]; exact Upd.refl.alloc _
                  have h5_8 : Blk Wb8 Wc5.heap.size 24 #[.int .i64 q0.v, .int .i64 q0.op, .int .i64 q0.imm, .int .i64 q0.iv, .slice K0 q0.kids.length c0] := by rw [← eWb8]; exact Blk.new _ _ _
                  have HZ := Lib.hid (hU5.size)
                  have hb8 := hb5.upd u8 (fun f => f)
                  have hr8 := hr5.upd u8 (fun _ _ _ f => f) (fun f => f)
                  have hU8 := hU5.then_non u8
                  have hk0_8 := PtK.upd u8 (fun _ _ _ f => f) _ _ _ hk0_5
                  have hi8 := cell_upd hi5 u8 (fun f => f)
                  clear HWb8
                  go_simp
                  refine hK.out _ _ trivial (fun _ => ?_)
                  clear hK K
                  try simp only [put_y]
                  try simp only [Act.put]
                  try simp only [put_z]
                  refine wpAnyH_ready (rs := [4]) (by kernel_rfl) (by simp) ?_
                  refine (AllReadyH.cons rfl (fun K hK => ?_) AllReadyH.nil)
                  go_simp
                  refine hK.out _ _ trivial (fun _ => ?_)
                  clear hK K
                  try simp only [put_y]
                  try simp only [Act.put]
                  try simp only [put_z]
                  refine wpAnyH_take (i := 11) (v := ?_) rfl (by kernel_rfl) (by kernel_rfl) (by kernel_rfl) (fun _ _ _ h => h) (Or.inl ⟨by rfl, ?_⟩) (by assumption) ?_
                  rotate_left
                  · intro w hSw; (try dsimp only at hSw); go_simp; try with_reducible rfl
                  try simp only [put_y]
                  try simp only [Act.put]
                  try simp only [put_z]
                  refine wpAnyH_ready (rs := [12]) (by kernel_rfl) (by simp) ?_
                  refine (AllReadyH.cons rfl (fun K hK => ?_) AllReadyH.nil)
                  have c0_ := hb8.cell 0
                  have c1_ := hb8.cell 1
                  have c2_ := hb8.cell 2
                  have c3_ := hb8.cell 3
                  have c4_ := hb8.cell 4
                  have f0 := hb8.frozen
                  go_simp
                  refine hK.out _ _ trivial (fun _ => ?_)
                  clear hK K
                  try simp only [put_y]
                  try simp only [Act.put]
                  try simp only [put_z]
                  refine wpAnyH_done (by kernel_rfl) ?_ _
                  go_wp2_with fail
                  rw [set5_eq]
                  refine bodyPost_ret (results_cell_row rfl _ _ w.heap.size 24 _ (0, 0) _ rfl (set5_blk hb8 _ _ _ _ _) Try.underlying24 rfl (by kernel_rfl)) rfl ?_
                  have u6 := set5_upd Wb8 w.heap.size (.int .i64 0) (.int .i64 op) (.int .i64 0) (.int .i64 0) (.slice (some ⟨Wc5.heap.size, 0, none⟩) 1 1)
                  have hs2 := HB2.out
                  have hz := HZ.out
                  have hk6 := h5_8.upd u6 (by omega)
                  have hk06 := (PtK.upd u6 (fun k _ h e => by omega) _ _ _ hk0_8).mono (G := fun k => w.heap.size ≤ k) (fun k _ h => by omega) _ _ _
                  have hs0 := HS0.out
                  refine ⟨.mk 0 op 0 0 [q0], some ⟨Wc5.heap.size, 0, none⟩, 1, _, rfl, .un op _ HOP2.out Hq0.out, ?_, ?_, (hr8.upd u6 (fun k hk q e => by have := q.2; omega) (by omega)).mono (fun k _ h => h.1), (HU2.trans hU8 (fun _ _ h => h)).trans u6 (fun i hi e => by omega)⟩
                  · rw [Pt.size_one, Nat.pow_succ]; have := HPW.out; omega
                  · exact PtK.one _ _ _ _ hk6 hk06 (by omega) (by omega)
            ·
              have CC := Lib.hid (HI.out wD _ p _ hFF hrD)
              unfold pv at CC
              go_simp
              try rw [hwk]
              refine CC.out.mono ?_
              rintro e Wc10 ⟨q0, K0, c0, y0, rfl, hq0, hs0, hk0_10, hr10, u10⟩
              clear CC
              have HS0 := Lib.hid hs0
              have Hq0 := Lib.hid hq0
              have hz10 := u10.size
              have hb10 := hbD.upd u10 (by omega)
              have hU10 := uDp.trans u10 (fun _ _ h => h)
              have hk0_10 := PtK.mono (G := fun k => w.heap.size < k) (fun k _ h => by have := HB2.out; have := uDp.size; omega) _ _ _ hk0_10
              clear hs0 hq0 hz10
              go_wp2_with fail
              refine hK.out _ _ trivial (fun _ => ?_)
              clear hK K
              try simp only [put_y]
              try simp only [Act.put]
              try simp only [put_z]
              refine wpAnyH_ready (rs := [0, 10]) (by kernel_rfl) (by simp) ?_
              refine (AllReadyH.cons rfl (fun K hK => ?_) (AllReadyH.cons rfl (fun K hK => ?_) AllReadyH.nil))
              ·
                obtain ⟨Wa11, HWa11⟩ := nm (Wc10.alloc (.cells #[.int .i64 20, .int .i64 21] 3))
                have eWa11 := HWa11.out
                have u11 : Upd Non Wc10 Wa11 := by rw [← eWa11]; exact Upd.refl.alloc _
                have hi11 : Wa11.cell? ⟨Wc10.heap.size, r, none⟩ = some (.int .i64 op) := by rw [← eWa11, (Blk.new Wc10 3 #[.int .i64 20, .int .i64 21]).cell]; exact HOP.out
                have hg11 : Wc10.heap.size ≠ p := by have := hr10.lt; omega
                have hb11 := hb10.upd u11 (fun f => f)
                have hr11 := hr10.upd u11 (fun _ _ _ f => f) (fun f => f)
                have hU11 := hU10.then_non u11
                have hk0_11 := PtK.upd u11 (fun _ _ _ f => f) _ _ _ hk0_10
                clear HWa11
                go_simp
                refine hK.out _ _ trivial (fun _ => ?_)
                clear hK K
                try simp only [put_y]
                try simp only [Act.put]
                try simp only [put_z]
                refine wpAnyH_take (i := 3) (v := ?_) rfl (by kernel_rfl) (by kernel_rfl) (by kernel_rfl) (fun _ _ _ h => h) (Or.inl ⟨by rfl, ?_⟩) (by assumption) ?_
                rotate_left
                · intro w hSw; (try dsimp only at hSw); go_simp; try with_reducible rfl
                try simp only [put_y]
                try simp only [Act.put]
                try simp only [put_z]
                refine wpAnyH_ready (rs := [4, 10]) (by kernel_rfl) (by simp) ?_
                refine (AllReadyH.cons rfl (fun K hK => ?_) (AllReadyH.cons rfl (fun K hK => ?_) AllReadyH.nil))
                ·
                  go_simp
                  refine hK.out _ _ trivial (fun _ => ?_)
                  clear hK K
                  try simp only [put_y]
                  try simp only [Act.put]
                  try simp only [put_z]
                  refine wpAnyH_ready (rs := [10]) (by kernel_rfl) (by simp) ?_
                  refine (AllReadyH.cons rfl (fun K hK => ?_) AllReadyH.nil)
                  obtain ⟨Wb13, HWb13⟩ := nm (Wa11.alloc (.cells #[.int .i64 q0.v, .int .i64 q0.op, .int .i64 q0.imm, .int .i64 q0.iv, .slice K0 q0.kids.length c0] 24))
                  have eWb13 := HWb13.out
                  have u13 : Upd Non Wa11 Wb13 := by rw [← eWb13]; exact Upd.refl.alloc _
                  have h5_13 : Blk Wb13 Wa11.heap.size 24 #[.int .i64 q0.v, .int .i64 q0.op, .int .i64 q0.imm, .int .i64 q0.iv, .slice K0 q0.kids.length c0] := by rw [← eWb13]; exact Blk.new _ _ _
                  have HZ := Lib.hid (hU11.size)
                  have hb13 := hb11.upd u13 (fun f => f)
                  have hr13 := hr11.upd u13 (fun _ _ _ f => f) (fun f => f)
                  have hU13 := hU11.then_non u13
                  have hk0_13 := PtK.upd u13 (fun _ _ _ f => f) _ _ _ hk0_11
                  have hi13 := cell_upd hi11 u13 (fun f => f)
                  clear HWb13
                  go_simp
                  refine hK.out _ _ trivial (fun _ => ?_)
                  clear hK K
                  try simp only [put_y]
                  try simp only [Act.put]
                  try simp only [put_z]
                  refine wpAnyH_take (i := 11) (v := ?_) rfl (by kernel_rfl) (by kernel_rfl) (by kernel_rfl) (fun _ _ _ h => h) (Or.inl ⟨by rfl, ?_⟩) (by assumption) ?_
                  rotate_left
                  · intro w hSw; (try dsimp only at hSw); go_simp; try with_reducible rfl
                  try simp only [put_y]
                  try simp only [Act.put]
                  try simp only [put_z]
                  refine wpAnyH_ready (rs := [12]) (by kernel_rfl) (by simp) ?_
                  refine (AllReadyH.cons rfl (fun K hK => ?_) AllReadyH.nil)
                  have c0_ := hb13.cell 0
                  have c1_ := hb13.cell 1
                  have c2_ := hb13.cell 2
                  have c3_ := hb13.cell 3
                  have c4_ := hb13.cell 4
                  have f0 := hb13.frozen
                  go_simp
                  refine hK.out _ _ trivial (fun _ => ?_)
                  clear hK K
                  try simp only [put_y]
                  try simp only [Act.put]
                  try simp only [put_z]
                  refine wpAnyH_done (by kernel_rfl) ?_ _
                  go_wp2_with fail
                  rw [set5_eq]
                  refine bodyPost_ret (results_cell_row rfl _ _ w.heap.size 24 _ (0, 0) _ rfl (set5_blk hb13 _ _ _ _ _) Try.underlying24 rfl (by kernel_rfl)) rfl ?_
                  have u6 := set5_upd Wb13 w.heap.size (.int .i64 0) (.int .i64 op) (.int .i64 0) (.int .i64 0) (.slice (some ⟨Wa11.heap.size, 0, none⟩) 1 1)
                  have hs2 := HB2.out
                  have hz := HZ.out
                  have hk6 := h5_13.upd u6 (by omega)
                  have hk06 := (PtK.upd u6 (fun k _ h e => by omega) _ _ _ hk0_13).mono (G := fun k => w.heap.size ≤ k) (fun k _ h => by omega) _ _ _
                  have hs0 := HS0.out
                  refine ⟨.mk 0 op 0 0 [q0], some ⟨Wa11.heap.size, 0, none⟩, 1, _, rfl, .un op _ HOP2.out Hq0.out, ?_, ?_, (hr13.upd u6 (fun k hk q e => by have := q.2; omega) (by omega)).mono (fun k _ h => h.1), (HU2.trans hU13 (fun _ _ h => h)).trans u6 (fun i hi e => by omega)⟩
                  · rw [Pt.size_one, Nat.pow_succ]; have := HPW.out; omega
                  · exact PtK.one _ _ _ _ hk6 hk06 (by omega) (by omega)
                ·
                  obtain ⟨Wb14, HWb14⟩ := nm (Wa11.alloc (.cells #[.int .i64 q0.v, .int .i64 q0.op, .int .i64 q0.imm, .int .i64 q0.iv, .slice K0 q0.kids.length c0] 24))
                  have eWb14 := HWb14.out
                  have u14 : Upd Non Wa11 Wb14 := by rw [← eWb14]; exact Upd.refl.alloc _
                  have h5_14 : Blk Wb14 Wa11.heap.size 24 #[.int .i64 q0.v, .int .i64 q0.op, .int .i64 q0.imm, .int .i64 q0.iv, .slice K0 q0.kids.length c0] := by rw [← eWb14]; exact Blk.new _ _ _
                  have HZ := Lib.hid (hU11.size)
                  have hb14 := hb11.upd u14 (fun f => f)
                  have hr14 := hr11.upd u14 (fun _ _ _ f => f) (fun f => f)
                  have hU14 := hU11.then_non u14
                  have hk0_14 := PtK.upd u14 (fun _ _ _ f => f) _ _ _ hk0_11
                  have hi14 := cell_upd hi11 u14 (fun f => f)
                  clear HWb14
                  go_simp
                  refine hK.out _ _ trivial (fun _ => ?_)
                  clear hK K
                  try simp only [put_y]
                  try simp only [Act.put]
                  try simp only [put_z]
                  refine wpAnyH_ready (rs := [4]) (by kernel_rfl) (by simp) ?_
                  refine (AllReadyH.cons rfl (fun K hK => ?_) AllReadyH.nil)
                  go_simp
                  refine hK.out _ _ trivial (fun _ => ?_)
                  clear hK K
                  try simp only [put_y]
                  try simp only [Act.put]
                  try simp only [put_z]
                  refine wpAnyH_take (i := 11) (v := ?_) rfl (by kernel_rfl) (by kernel_rfl) (by kernel_rfl) (fun _ _ _ h => h) (Or.inl ⟨by rfl, ?_⟩) (by assumption) ?_
                  rotate_left
                  · intro w hSw; (try dsimp only at hSw); go_simp; try with_reducible rfl
                  try simp only [put_y]
                  try simp only [Act.put]
                  try simp only [put_z]
                  refine wpAnyH_ready (rs := [12]) (by kernel_rfl) (by simp) ?_
                  refine (AllReadyH.cons rfl (fun K hK => ?_) AllReadyH.nil)
                  have c0_ := hb14.cell 0
                  have c1_ := hb14.cell 1
                  have c2_ := hb14.cell 2
                  have c3_ := hb14.cell 3
                  have c4_ := hb14.cell 4
                  have f0 := hb14.frozen
                  go_simp
                  refine hK.out _ _ trivial (fun _ => ?_)
                  clear hK K
                  try simp only [put_y]
                  try simp only [Act.put]
                  try simp only [put_z]
                  refine wpAnyH_done (by kernel_rfl) ?_ _
                  go_wp2_with fail
                  rw [set5_eq]
                  refine bodyPost_ret (results_cell_row rfl _ _ w.heap.size 24 _ (0, 0) _ rfl (set5_blk hb14 _ _ _ _ _) Try.underlying24 rfl (by kernel_rfl)) rfl ?_
                  have u6 := set5_upd Wb14 w.heap.size (.int .i64 0) (.int .i64 op) (.int .i64 0) (.int .i64 0) (.slice (some ⟨Wa11.heap.size, 0, none⟩) 1 1)
                  have hs2 := HB2.out
                  have hz := HZ.out
                  have hk6 := h5_14.upd u6 (by omega)
                  have hk06 := (PtK.upd u6 (fun k _ h e => by omega) _ _ _ hk0_14).mono (G := fun k => w.heap.size ≤ k) (fun k _ h => by omega) _ _ _
                  have hs0 := HS0.out
                  refine ⟨.mk 0 op 0 0 [q0], some ⟨Wa11.heap.size, 0, none⟩, 1, _, rfl, .un op _ HOP2.out Hq0.out, ?_, ?_, (hr14.upd u6 (fun k hk q e => by have := q.2; omega) (by omega)).mono (fun k _ h => h.1), (HU2.trans hU14 (fun _ _ h => h)).trans u6 (fun i hi e => by omega)⟩
                  · rw [Pt.size_one, Nat.pow_succ]; have := HPW.out; omega
                  · exact PtK.one _ _ _ _ hk6 hk06 (by omega) (by omega)
              ·
                obtain ⟨Wb16, HWb16⟩ := nm (Wc10.alloc (.cells #[.int .i64 q0.v, .int .i64 q0.op, .int .i64 q0.imm, .int .i64 q0.iv, .slice K0 q0.kids.length c0] 24))
                have eWb16 := HWb16.out
                have u16 : Upd Non Wc10 Wb16 := by rw [← eWb16]; exact Upd.refl.alloc _
                have h5_16 : Blk Wb16 Wc10.heap.size 24 #[.int .i64 q0.v, .int .i64 q0.op, .int .i64 q0.imm, .int .i64 q0.iv, .slice K0 q0.kids.length c0] := by rw [← eWb16]; exact Blk.new _ _ _
                have HZ := Lib.hid (hU10.size)
                have hb16 := hb10.upd u16 (fun f => f)
                have hr16 := hr10.upd u16 (fun _ _ _ f => f) (fun f => f)
                have hU16 := hU10.then_non u16
                have hk0_16 := PtK.upd u16 (fun _ _ _ f => f) _ _ _ hk0_10
                clear HWb16
                go_simp
                refine hK.out _ _ trivial (fun _ => ?_)
                clear hK K
                try simp only [put_y]
                try simp only [Act.put]
                try simp only [put_z]
                refine wpAnyH_ready (rs := [0]) (by kernel_rfl) (by simp) ?_
                refine (AllReadyH.cons rfl (fun K hK => ?_) AllReadyH.nil)
                obtain ⟨Wa17, HWa17⟩ := nm (Wb16.alloc (.cells #[.int .i64 20, .int .i64 21] 3))
                have eWa17 := HWa17.out
                have u17 : Upd Non Wb16 Wa17 := by rw [← eWa17]; exact Upd.refl.alloc _
                have hi17 : Wa17.cell? ⟨Wb16.heap.size, r, none⟩ = some (.int .i64 op) := by rw [← eWa17, (Blk.new Wb16 3 #[.int .i64 20, .int .i64 21]).cell]; exact HOP.out
                have hg17 : Wb16.heap.size ≠ p := by have := hr16.lt; omega
                have hb17 := hb16.upd u17 (fun f => f)
                have hr17 := hr16.upd u17 (fun _ _ _ f => f) (fun f => f)
                have hU17 := hU16.then_non u17
                have hk0_17 := PtK.upd u17 (fun _ _ _ f => f) _ _ _ hk0_16
                have h5_17 := h5_16.upd u17 (fun f => f)
                clear HWa17
                go_simp
                refine hK.out _ _ trivial (fun _ => ?_)
                clear hK K
                try simp only [put_y]
                try simp only [Act.put]
                try simp only [put_z]
                refine wpAnyH_take (i := 3) (v := ?_) rfl (by kernel_rfl) (by kernel_rfl) (by kernel_rfl) (fun _ _ _ h => h) (Or.inl ⟨by rfl, ?_⟩) (by assumption) ?_
                rotate_left
                · intro w hSw; (try dsimp only at hSw); go_simp; try with_reducible rfl
                try simp only [put_y]
                try simp only [Act.put]
                try simp only [put_z]
                refine wpAnyH_ready (rs := [4]) (by kernel_rfl) (by simp) ?_
                refine (AllReadyH.cons rfl (fun K hK => ?_) AllReadyH.nil)
                go_simp
                refine hK.out _ _ trivial (fun _ => ?_)
                clear hK K
                try simp only [put_y]
                try simp only [Act.put]
                try simp only [put_z]
                refine wpAnyH_take (i := 11) (v := ?_) rfl (by kernel_rfl) (by kernel_rfl) (by kernel_rfl) (fun _ _ _ h => h) (Or.inl ⟨by rfl, ?_⟩) (by assumption) ?_
                rotate_left
                · intro w hSw; (try dsimp only at hSw); go_simp; try with_reducible rfl
                try simp only [put_y]
                try simp only [Act.put]
                try simp only [put_z]
                refine wpAnyH_ready (rs := [12]) (by kernel_rfl) (by simp) ?_
                refine (AllReadyH.cons rfl (fun K hK => ?_) AllReadyH.nil)
                have c0_ := hb17.cell 0
                have c1_ := hb17.cell 1
                have c2_ := hb17.cell 2
                have c3_ := hb17.cell 3
                have c4_ := hb17.cell 4
                have f0 := hb17.frozen
                go_simp
                refine hK.out _ _ trivial (fun _ => ?_)
                clear hK K
                try simp only [put_y]
                try simp only [Act.put]
                try simp only [put_z]
                refine wpAnyH_done (by kernel_rfl) ?_ _
                go_wp2_with fail
                rw [set5_eq]
                refine bodyPost_ret (results_cell_row rfl _ _ w.heap.size 24 _ (0, 0) _ rfl (set5_blk hb17 _ _ _ _ _) Try.underlying24 rfl (by kernel_rfl)) rfl ?_
                have u6 := set5_upd Wa17 w.heap.size (.int .i64 0) (.int .i64 op) (.int .i64 0) (.int .i64 0) (.slice (some ⟨Wc10.heap.size, 0, none⟩) 1 1)
                have hs2 := HB2.out
                have hz := HZ.out
                have hk6 := h5_17.upd u6 (by omega)
                have hk06 := (PtK.upd u6 (fun k _ h e => by omega) _ _ _ hk0_17).mono (G := fun k => w.heap.size ≤ k) (fun k _ h => by omega) _ _ _
                have hs0 := HS0.out
                refine ⟨.mk 0 op 0 0 [q0], some ⟨Wc10.heap.size, 0, none⟩, 1, _, rfl, .un op _ HOP2.out Hq0.out, ?_, ?_, (hr17.upd u6 (fun k hk q e => by have := q.2; omega) (by omega)).mono (fun k _ h => h.1), (HU2.trans hU17 (fun _ _ h => h)).trans u6 (fun i hi e => by omega)⟩
                · rw [Pt.size_one, Nat.pow_succ]; have := HPW.out; omega
                · exact PtK.one _ _ _ _ hk6 hk06 (by omega) (by omega)
          · have t4 : decide (k < 6) = false := decide_eq_false q6
            obtain ⟨r, hma, hmb, hmc, hmd⟩ : ∃ r : Nat, (m : Int).tmod 3 = (r : Int) ∧ (m : Int) % 3 = (r : Int) ∧ r < 3 ∧ (r : Int) < 3 := ⟨m % 3, by rw [Int.tmod_eq_emod_of_nonneg (by omega)]; omega, by omega, by omega, by omega⟩
            clear q2 q4 q5 q6
            obtain ⟨op, hop, hop2⟩ : ∃ op : Int, (#[.int .i64 4, .int .i64 5, .int .i64 6] : Array Value)[r]? = some (.int .i64 op) ∧ (op = 4 ∨ op = 5 ∨ op = 6) := by
              have : r = 0 ∨ r = 1 ∨ r = 2 := by omega
              rcases this with rfl | rfl | rfl
              all_goals exact ⟨_, rfl, by simp⟩
            have HOP := Lib.hid hop
            have HOP2 := Lib.hid hop2
            have HB2 := Lib.hid (show w.heap.size < w2.heap.size by have := HSW.out; have := HS2.out; omega)
            clear hop hop2 hm1
            go_wp2_with fail
            obtain ⟨wD, HwD⟩ := nm w2.drew
            have uD : Upd Non w2 wD := by rw [← HwD.out]; exact Upd.refl.drew
            have hbD := hb2.upd uD (fun f => f)
            have hrD := hr2.upd uD (fun _ _ _ f => f) (fun f => f)
            have uDp : Upd (· = p) w2 wD := uD.mono (fun _ _ f => f.elim)
            refine wp_region_held_drew (S := fun _ => True) (by kernel_rfl) trivial (fun hHeld => ?_)
            rw [HwD.out]
            clear hb2 uD
            refine wpAnyH_take (i := 1) (v := ?_) rfl (by kernel_rfl) (by kernel_rfl) (by kernel_rfl) (fun _ _ _ h => h) (Or.inl ⟨by rfl, ?_⟩) (by assumption) ?_
            rotate_left
            · intro w hSw; (try dsimp only at hSw); go_simp; try with_reducible rfl
            try simp only [put_y]
            try simp only [Act.put]
            try simp only [put_z]
            refine wpAnyH_take (i := 2) (v := ?_) rfl (by kernel_rfl) (by kernel_rfl) (by kernel_rfl) (fun _ _ _ h => h) (Or.inl ⟨by rfl, ?_⟩) (by assumption) ?_
            rotate_left
            · intro w hSw; (try dsimp only at hSw); go_simp; try with_reducible rfl
            try simp only [put_y]
            try simp only [Act.put]
            try simp only [put_z]
            refine wpAnyH_take (i := 5) (v := ?_) rfl (by kernel_rfl) (by kernel_rfl) (by kernel_rfl) (fun _ _ _ h => h) (Or.inl ⟨by rfl, ?_⟩) (by assumption) ?_
            rotate_left
            · intro w hSw; (try dsimp only at hSw); go_simp; try with_reducible rfl
            try simp only [put_y]
            try simp only [Act.put]
            try simp only [put_z]
            refine wpAnyH_take (i := 6) (v := ?_) rfl (by kernel_rfl) (by kernel_rfl) (by kernel_rfl) (fun _ _ _ h => h) (Or.inl ⟨by rfl, ?_⟩) (by assumption) ?_
            rotate_left
            · intro w hSw; (try dsimp only at hSw); go_simp; try with_reducible rfl
            try simp only [put_y]
            try simp only [Act.put]
            try simp only [put_z]
            refine wpAnyH_take (i := 7) (v := ?_) rfl (by kernel_rfl) (by kernel_rfl) (by kernel_rfl) (fun _ _ _ h => h) (Or.inl ⟨by rfl, ?_⟩) (by assumption) ?_
            rotate_left
            · intro w hSw; (try dsimp only at hSw); go_simp; try with_reducible rfl
            try simp only [put_y]
            try simp only [Act.put]
            try simp only [put_z]
            refine wpAnyH_take (i := 8) (v := ?_) rfl (by kernel_rfl) (by kernel_rfl) (by kernel_rfl) (fun _ _ _ h => h) (Or.inl ⟨by rfl, ?_⟩) (by assumption) ?_
            rotate_left
            · intro w hSw; (try dsimp only at hSw); go_simp; try with_reducible rfl
            try simp only [put_y]
            try simp only [Act.put]
            try simp only [put_z]
            refine wpAnyH_take (i := 10) (v := ?_) rfl (by kernel_rfl) (by kernel_rfl) (by kernel_rfl) (fun _ _ _ h => h) (Or.inl ⟨by rfl, ?_⟩) (by assumption) ?_
            rotate_left
            · intro w hSw; (try dsimp only at hSw); go_simp; try with_reducible rfl
            try simp only [put_y]
            try simp only [Act.put]
            try simp only [put_z]
            refine wpAnyH_take (i := 11) (v := ?_) rfl (by kernel_rfl) (by kernel_rfl) (by kernel_rfl) (fun _ _ _ h => h) (Or.inl ⟨by rfl, ?_⟩) (by assumption) ?_
            rotate_left
            · intro w hSw; (try dsimp only at hSw); go_simp; try with_reducible rfl
            try simp only [put_y]
            try simp only [Act.put]
            try simp only [put_z]
            refine wpAnyH_take (i := 12) (v := ?_) rfl (by kernel_rfl) (by kernel_rfl) (by kernel_rfl) (fun _ _ _ h => h) (Or.inl ⟨by rfl, ?_⟩) (by assumption) ?_
            rotate_left
            · intro w hSw; (try dsimp only at hSw); go_simp; try with_reducible rfl
            try simp only [put_y]
            try simp only [Act.put]
            try simp only [put_z]
            refine wpAnyH_take (i := 13) (v := ?_) rfl (by kernel_rfl) (by kernel_rfl) (by kernel_rfl) (fun _ _ _ h => h) (Or.inl ⟨by rfl, ?_⟩) (by assumption) ?_
            rotate_left
            · intro w hSw; (try dsimp only at hSw); go_simp; try with_reducible rfl
            try simp only [put_y]
            try simp only [Act.put]
            try simp only [put_z]
            refine wpAnyH_ready (rs := [0, 9]) (by kernel_rfl) (by simp) ?_
            refine (AllReadyH.cons rfl (fun K hK => ?_) (AllReadyH.cons rfl (fun K hK => ?_) AllReadyH.nil))
            ·
              obtain ⟨Wa1, HWa1⟩ := nm (wD.alloc (.cells #[.int .i64 4, .int .i64 5, .int .i64 6] 3))
              have eWa1 := HWa1.out
              have u1 : Upd Non wD Wa1 := by rw [← eWa1]; exact Upd.refl.alloc _
              have hi1 : Wa1.cell? ⟨wD.heap.size, r, none⟩ = some (.int .i64 op) := by rw [← eWa1, (Blk.new wD 3 #[.int .i64 4, .int .i64 5, .int .i64 6]).cell]; exact HOP.out
              have hg1 : wD.heap.size ≠ p := by have := hrD.lt; omega
              have hb1 := hbD.upd u1 (fun f => f)
              have hr1 := hrD.upd u1 (fun _ _ _ f => f) (fun f => f)
              have hU1 := uDp.then_non u1
              clear HWa1
              go_simp
              refine hK.out _ _ trivial (fun _ => ?_)
              clear hK K
              try simp only [put_y]
              try simp only [Act.put]
              try simp only [put_z]
              refine wpAnyH_take (i := 3) (v := ?_) rfl (by kernel_rfl) (by kernel_rfl) (by kernel_rfl) (fun _ _ _ h => h) (Or.inl ⟨by rfl, ?_⟩) (by assumption) ?_
              rotate_left
              · intro w hSw; (try dsimp only at hSw); go_simp; try with_reducible rfl
              try simp only [put_y]
              try simp only [Act.put]
              try simp only [put_z]
              refine wpAnyH_ready (rs := [4, 9]) (by kernel_rfl) (by simp) ?_
              refine (AllReadyH.cons rfl (fun K hK => ?_) (AllReadyH.cons rfl (fun K hK => ?_) AllReadyH.nil))
              ·
                go_simp
                refine hK.out _ _ trivial (fun _ => ?_)
                clear hK K
                try simp only [put_y]
                try simp only [Act.put]
                try simp only [put_z]
                refine wpAnyH_ready (rs := [9]) (by kernel_rfl) (by simp) ?_
                refine (AllReadyH.cons rfl (fun K hK => ?_) AllReadyH.nil)
                have CC := Lib.hid (HI.out Wa1 _ p _ hFF hr1)
                unfold pv at CC
                go_simp
                try rw [hwk]
                refine CC.out.mono ?_
                rintro e Wc3 ⟨q0, K0, c0, y0, rfl, hq0, hs0, hk0_3, hr3, u3⟩
                clear CC
                have HS0 := Lib.hid hs0
                have Hq0 := Lib.hid hq0
                have hz3 := u3.size
                have hb3 := hb1.upd u3 (by omega)
                have hi3 := cell_upd hi1 u3 hg1
                have hU3 := hU1.trans u3 (fun _ _ h => h)
                have hk0_3 := PtK.mono (G := fun k => w.heap.size < k) (fun k _ h => by have := HB2.out; have := hU1.size; omega) _ _ _ hk0_3
                clear hs0 hq0 hz3
                go_wp2_with fail
                refine hK.out _ _ trivial (fun _ => ?_)
                clear hK K
                try simp only [put_y]
                try simp only [Act.put]
                try simp only [put_z]
                refine wpAnyH_ready (rs := [14]) (by kernel_rfl) (by simp) ?_
                refine (AllReadyH.cons rfl (fun K hK => ?_) AllReadyH.nil)
                have CC := Lib.hid (HI.out Wc3 _ p _ hFF hr3)
                unfold pv at CC
                go_simp
                try rw [hwk]
                refine CC.out.mono ?_
                rintro e Wc4 ⟨q1, K1, c1, y1, rfl, hq1, hs1, hk1_4, hr4, u4⟩
                clear CC
                have HS1 := Lib.hid hs1
                have Hq1 := Lib.hid hq1
                have hz4 := u4.size
                have hb4 := hb3.upd u4 (by omega)
                have hi4 := cell_upd hi3 u4 hg1
                have hU4 := hU3.trans u4 (fun _ _ h => h)
                have hk1_4 := PtK.mono (G := fun k => w.heap.size < k) (fun k _ h => by have := HB2.out; have := hU3.size; omega) _ _ _ hk1_4
                have hk0_4 := PtK.upd u4 (fun k _ h e => by omega) _ _ _ hk0_3
                clear hs1 hq1 hz4
                go_wp2_with fail
                refine hK.out _ _ trivial (fun _ => ?_)
                clear hK K
                try simp only [put_y]
                try simp only [Act.put]
                try simp only [put_z]
                refine wpAnyH_ready (rs := [15]) (by kernel_rfl) (by simp) ?_
                refine (AllReadyH.cons rfl (fun K hK => ?_) AllReadyH.nil)
                obtain ⟨Wb5, HWb5⟩ := nm (Wc4.alloc (.cells #[.int .i64 q0.v, .int .i64 q0.op, .int .i64 q0.imm, .int .i64 q0.iv, .slice K0 q0.kids.length c0, .int .i64 q1.v, .int .i64 q1.op, .int .i64 q1.imm, .int .i64 q1.iv, .slice K1 q1.kids.length c1] 24))
                have eWb5 := HWb5.out
                have u5 : Upd Non Wc4 Wb5 := by rw [← eWb5]; exact Upd.refl.alloc _
                have h5_5 : Blk Wb5 Wc4.heap.size 24 #[.int .i64 q0.v, .int .i64 q0.op, .int .i64 q0.imm, .int .i64 q0.iv, .slice K0 q0.kids.length c0, .int .i64 q1.v, .int .i64 q1.op, .int .i64 q1.imm, .int .i64 q1.iv, .slice K1 q1.kids.length c1] := by rw [← eWb5]; exact Blk.new _ _ _
                have HZ := Lib.hid (hU4.size)
                have hb5 := hb4.upd u5 (fun f => f)
                have hr5 := hr4.upd u5 (fun _ _ _ f => f) (fun f => f)
                have hU5 := hU4.then_non u5
                have hk0_5 := PtK.upd u5 (fun _ _ _ f => f) _ _ _ hk0_4
                have hk1_5 := PtK.upd u5 (fun _ _ _ f => f) _ _ _ hk1_4
                have hi5 := cell_upd hi4 u5 (fun f => f)
                clear HWb5
                go_simp
                refine hK.out _ _ trivial (fun _ => ?_)
                clear hK K
                try simp only [put_y]
                try simp only [Act.put]
                try simp only [put_z]
                refine wpAnyH_take (i := 16) (v := ?_) rfl (by kernel_rfl) (by kernel_rfl) (by kernel_rfl) (fun _ _ _ h => h) (Or.inl ⟨by rfl, ?_⟩) (by assumption) ?_
                rotate_left
                · intro w hSw; (try dsimp only at hSw); go_simp; try with_reducible rfl
                try simp only [put_y]
                try simp only [Act.put]
                try simp only [put_z]
                refine wpAnyH_ready (rs := [17]) (by kernel_rfl) (by simp) ?_
                refine (AllReadyH.cons rfl (fun K hK => ?_) AllReadyH.nil)
                have c0_ := hb5.cell 0
                have c1_ := hb5.cell 1
                have c2_ := hb5.cell 2
                have c3_ := hb5.cell 3
                have c4_ := hb5.cell 4
                have f0 := hb5.frozen
                go_simp
                refine hK.out _ _ trivial (fun _ => ?_)
                clear hK K
                try simp only [put_y]
                try simp only [Act.put]
                try simp only [put_z]
                refine wpAnyH_done (by kernel_rfl) ?_ _
                go_wp2_with fail
                rw [set5_eq]
                refine bodyPost_ret (results_cell_row rfl _ _ w.heap.size 24 _ (0, 0) _ rfl (set5_blk hb5 _ _ _ _ _) Try.underlying24 rfl (by kernel_rfl)) rfl ?_
                have u6 := set5_upd Wb5 w.heap.size (.int .i64 0) (.int .i64 op) (.int .i64 0) (.int .i64 0) (.slice (some ⟨Wc4.heap.size, 0, none⟩) 2 2)
                have hs2 := HB2.out
                have hz := HZ.out
                have hk6 := h5_5.upd u6 (by omega)
                have hk06 := (PtK.upd u6 (fun k _ h e => by omega) _ _ _ hk0_5).mono (G := fun k => w.heap.size ≤ k) (fun k _ h => by omega) _ _ _
                have hk16 := (PtK.upd u6 (fun k _ h e => by omega) _ _ _ hk1_5).mono (G := fun k => w.heap.size ≤ k) (fun k _ h => by omega) _ _ _
                have hs0 := HS0.out
                have hs1 := HS1.out
                refine ⟨.mk 0 op 0 0 [q0, q1], some ⟨Wc4.heap.size, 0, none⟩, 2, _, rfl, .bin op _ _ HOP2.out Hq0.out Hq1.out, ?_, ?_, (hr5.upd u6 (fun k hk q e => by have := q.2; omega) (by omega)).mono (fun k _ h => h.1), (HU2.trans hU5 (fun _ _ h => h)).trans u6 (fun i hi e => by omega)⟩
                · rw [Pt.size_two, Nat.pow_succ]; omega
                · exact PtK.two _ _ _ _ hk6 hk06 hk16 (by omega) (by omega)
              ·
                have CC := Lib.hid (HI.out Wa1 _ p _ hFF hr1)
                unfold pv at CC
                go_simp
                try rw [hwk]
                refine CC.out.mono ?_
                rintro e Wc6 ⟨q0, K0, c0, y0, rfl, hq0, hs0, hk0_6, hr6, u6⟩
                clear CC
                have HS0 := Lib.hid hs0
                have Hq0 := Lib.hid hq0
                have hz6 := u6.size
                have hb6 := hb1.upd u6 (by omega)
                have hi6 := cell_upd hi1 u6 hg1
                have hU6 := hU1.trans u6 (fun _ _ h => h)
                have hk0_6 := PtK.mono (G := fun k => w.heap.size < k) (fun k _ h => by have := HB2.out; have := hU1.size; omega) _ _ _ hk0_6
                clear hs0 hq0 hz6
                go_wp2_with fail
                refine hK.out _ _ trivial (fun _ => ?_)
                clear hK K
                try simp only [put_y]
                try simp only [Act.put]
                try simp only [put_z]
                refine wpAnyH_ready (rs := [4, 14]) (by kernel_rfl) (by simp) ?_
                refine (AllReadyH.cons rfl (fun K hK => ?_) (AllReadyH.cons rfl (fun K hK => ?_) AllReadyH.nil))
                ·
                  go_simp
                  refine hK.out _ _ trivial (fun _ => ?_)
                  clear hK K
                  try simp only [put_y]
                  try simp only [Act.put]
                  try simp only [put_z]
                  refine wpAnyH_ready (rs := [14]) (by kernel_rfl) (by simp) ?_
                  refine (AllReadyH.cons rfl (fun K hK => ?_) AllReadyH.nil)
                  have CC := Lib.hid (HI.out Wc6 _ p _ hFF hr6)
                  unfold pv at CC
                  go_simp
                  try rw [hwk]
                  refine CC.out.mono ?_
                  rintro e Wc8 ⟨q1, K1, c1, y1, rfl, hq1, hs1, hk1_8, hr8, u8⟩
                  clear CC
                  have HS1 := Lib.hid hs1
                  have Hq1 := Lib.hid hq1
                  have hz8 := u8.size
                  have hb8 := hb6.upd u8 (by omega)
                  have hi8 := cell_upd hi6 u8 hg1
                  have hU8 := hU6.trans u8 (fun _ _ h => h)
                  have hk1_8 := PtK.mono (G := fun k => w.heap.size < k) (fun k _ h => by have := HB2.out; have := hU6.size; omega) _ _ _ hk1_8
                  have hk0_8 := PtK.upd u8 (fun k _ h e => by omega) _ _ _ hk0_6
                  clear hs1 hq1 hz8
                  go_wp2_with fail
                  refine hK.out _ _ trivial (fun _ => ?_)
                  clear hK K
                  try simp only [put_y]
                  try simp only [Act.put]
                  try simp only [put_z]
                  refine wpAnyH_ready (rs := [15]) (by kernel_rfl) (by simp) ?_
                  refine (AllReadyH.cons rfl (fun K hK => ?_) AllReadyH.nil)
                  obtain ⟨Wb9, HWb9⟩ := nm (Wc8.alloc (.cells #[.int .i64 q0.v, .int .i64 q0.op, .int .i64 q0.imm, .int .i64 q0.iv, .slice K0 q0.kids.length c0, .int .i64 q1.v, .int .i64 q1.op, .int .i64 q1.imm, .int .i64 q1.iv, .slice K1 q1.kids.length c1] 24))
                  have eWb9 := HWb9.out
                  have u9 : Upd Non Wc8 Wb9 := by rw [← eWb9]; exact Upd.refl.alloc _
                  have h5_9 : Blk Wb9 Wc8.heap.size 24 #[.int .i64 q0.v, .int .i64 q0.op, .int .i64 q0.imm, .int .i64 q0.iv, .slice K0 q0.kids.length c0, .int .i64 q1.v, .int .i64 q1.op, .int .i64 q1.imm, .int .i64 q1.iv, .slice K1 q1.kids.length c1] := by rw [← eWb9]; exact Blk.new _ _ _
                  have HZ := Lib.hid (hU8.size)
                  have hb9 := hb8.upd u9 (fun f => f)
                  have hr9 := hr8.upd u9 (fun _ _ _ f => f) (fun f => f)
                  have hU9 := hU8.then_non u9
                  have hk0_9 := PtK.upd u9 (fun _ _ _ f => f) _ _ _ hk0_8
                  have hk1_9 := PtK.upd u9 (fun _ _ _ f => f) _ _ _ hk1_8
                  have hi9 := cell_upd hi8 u9 (fun f => f)
                  clear HWb9
                  go_simp
                  refine hK.out _ _ trivial (fun _ => ?_)
                  clear hK K
                  try simp only [put_y]
                  try simp only [Act.put]
                  try simp only [put_z]
                  refine wpAnyH_take (i := 16) (v := ?_) rfl (by kernel_rfl) (by kernel_rfl) (by kernel_rfl) (fun _ _ _ h => h) (Or.inl ⟨by rfl, ?_⟩) (by assumption) ?_
                  rotate_left
                  · intro w hSw; (try dsimp only at hSw); go_simp; try with_reducible rfl
                  try simp only [put_y]
                  try simp only [Act.put]
                  try simp only [put_z]
                  refine wpAnyH_ready (rs := [17]) (by kernel_rfl) (by simp) ?_
                  refine (AllReadyH.cons rfl (fun K hK => ?_) AllReadyH.nil)
                  have c0_ := hb9.cell 0
                  have c1_ := hb9.cell 1
                  have c2_ := hb9.cell 2
                  have c3_ := hb9.cell 3
                  have c4_ := hb9.cell 4
                  have f0 := hb9.frozen
                  go_simp
                  refine hK.out _ _ trivial (fun _ => ?_)
                  clear hK K
                  try simp only [put_y]
                  try simp only [Act.put]
                  try simp only [put_z]
                  refine wpAnyH_done (by kernel_rfl) ?_ _
                  go_wp2_with fail
                  rw [set5_eq]
                  refine bodyPost_ret (results_cell_row rfl _ _ w.heap.size 24 _ (0, 0) _ rfl (set5_blk hb9 _ _ _ _ _) Try.underlying24 rfl (by kernel_rfl)) rfl ?_
                  have u6 := set5_upd Wb9 w.heap.size (.int .i64 0) (.int .i64 op) (.int .i64 0) (.int .i64 0) (.slice (some ⟨Wc8.heap.size, 0, none⟩) 2 2)
                  have hs2 := HB2.out
                  have hz := HZ.out
                  have hk6 := h5_9.upd u6 (by omega)
                  have hk06 := (PtK.upd u6 (fun k _ h e => by omega) _ _ _ hk0_9).mono (G := fun k => w.heap.size ≤ k) (fun k _ h => by omega) _ _ _
                  have hk16 := (PtK.upd u6 (fun k _ h e => by omega) _ _ _ hk1_9).mono (G := fun k => w.heap.size ≤ k) (fun k _ h => by omega) _ _ _
                  have hs0 := HS0.out
                  have hs1 := HS1.out
                  refine ⟨.mk 0 op 0 0 [q0, q1], some ⟨Wc8.heap.size, 0, none⟩, 2, _, rfl, .bin op _ _ HOP2.out Hq0.out Hq1.out, ?_, ?_, (hr9.upd u6 (fun k hk q e => by have := q.2; omega) (by omega)).mono (fun k _ h => h.1), (HU2.trans hU9 (fun _ _ h => h)).trans u6 (fun i hi e => by omega)⟩
                  · rw [Pt.size_two, Nat.pow_succ]; omega
                  · exact PtK.two _ _ _ _ hk6 hk06 hk16 (by omega) (by omega)
                ·
                  have CC := Lib.hid (HI.out Wc6 _ p _ hFF hr6)
                  unfold pv at CC
                  go_simp
                  try rw [hwk]
                  refine CC.out.mono ?_
                  rintro e Wc10 ⟨q1, K1, c1, y1, rfl, hq1, hs1, hk1_10, hr10, u10⟩
                  clear CC
                  have HS1 := Lib.hid hs1
                  have Hq1 := Lib.hid hq1
                  have hz10 := u10.size
                  have hb10 := hb6.upd u10 (by omega)
                  have hi10 := cell_upd hi6 u10 hg1
                  have hU10 := hU6.trans u10 (fun _ _ h => h)
                  have hk1_10 := PtK.mono (G := fun k => w.heap.size < k) (fun k _ h => by have := HB2.out; have := hU6.size; omega) _ _ _ hk1_10
                  have hk0_10 := PtK.upd u10 (fun k _ h e => by omega) _ _ _ hk0_6
                  clear hs1 hq1 hz10
                  go_wp2_with fail
                  refine hK.out _ _ trivial (fun _ => ?_)
                  clear hK K
                  try simp only [put_y]
                  try simp only [Act.put]
                  try simp only [put_z]
                  refine wpAnyH_ready (rs := [4, 15]) (by kernel_rfl) (by simp) ?_
                  refine (AllReadyH.cons rfl (fun K hK => ?_) (AllReadyH.cons rfl (fun K hK => ?_) AllReadyH.nil))
                  ·
                    go_simp
                    refine hK.out _ _ trivial (fun _ => ?_)
                    clear hK K
                    try simp only [put_y]
                    try simp only [Act.put]
                    try simp only [put_z]
                    refine wpAnyH_ready (rs := [15]) (by kernel_rfl) (by simp) ?_
                    refine (AllReadyH.cons rfl (fun K hK => ?_) AllReadyH.nil)
                    obtain ⟨Wb12, HWb12⟩ := nm (Wc10.alloc (.cells #[.int .i64 q0.v, .int .i64 q0.op, .int .i64 q0.imm, .int .i64 q0.iv, .slice K0 q0.kids.length c0, .int .i64 q1.v, .int .i64 q1.op, .int .i64 q1.imm, .int .i64 q1.iv, .slice K1 q1.kids.length c1] 24))
                    have eWb12 := HWb12.out
                    have u12 : Upd Non Wc10 Wb12 := by rw [← eWb12]; exact Upd.refl.alloc _
                    have h5_12 : Blk Wb12 Wc10.heap.size 24 #[.int .i64 q0.v, .int .i64 q0.op, .int .i64 q0.imm, .int .i64 q0.iv, .slice K0 q0.kids.length c0, .int .i64 q1.v, .int .i64 q1.op, .int .i64 q1.imm, .int .i64 q1.iv, .slice K1 q1.kids.length c1] := by rw [← eWb12]; exact Blk.new _ _ _
                    have HZ := Lib.hid (hU10.size)
                    have hb12 := hb10.upd u12 (fun f => f)
                    have hr12 := hr10.upd u12 (fun _ _ _ f => f) (fun f => f)
                    have hU12 := hU10.then_non u12
                    have hk0_12 := PtK.upd u12 (fun _ _ _ f => f) _ _ _ hk0_10
                    have hk1_12 := PtK.upd u12 (fun _ _ _ f => f) _ _ _ hk1_10
                    have hi12 := cell_upd hi10 u12 (fun f => f)
                    clear HWb12
                    go_simp
                    refine hK.out _ _ trivial (fun _ => ?_)
                    clear hK K
                    try simp only [put_y]
                    try simp only [Act.put]
                    try simp only [put_z]
                    refine wpAnyH_take (i := 16) (v := ?_) rfl (by kernel_rfl) (by kernel_rfl) (by kernel_rfl) (fun _ _ _ h => h) (Or.inl ⟨by rfl, ?_⟩) (by assumption) ?_
                    rotate_left
                    · intro w hSw; (try dsimp only at hSw); go_simp; try with_reducible rfl
                    try simp only [put_y]
                    try simp only [Act.put]
                    try simp only [put_z]
                    refine wpAnyH_ready (rs := [17]) (by kernel_rfl) (by simp) ?_
                    refine (AllReadyH.cons rfl (fun K hK => ?_) AllReadyH.nil)
                    have c0_ := hb12.cell 0
                    have c1_ := hb12.cell 1
                    have c2_ := hb12.cell 2
                    have c3_ := hb12.cell 3
                    have c4_ := hb12.cell 4
                    have f0 := hb12.frozen
                    go_simp
                    refine hK.out _ _ trivial (fun _ => ?_)
                    clear hK K
                    try simp only [put_y]
                    try simp only [Act.put]
                    try simp only [put_z]
                    refine wpAnyH_done (by kernel_rfl) ?_ _
                    go_wp2_with fail
                    rw [set5_eq]
                    refine bodyPost_ret (results_cell_row rfl _ _ w.heap.size 24 _ (0, 0) _ rfl (set5_blk hb12 _ _ _ _ _) Try.underlying24 rfl (by kernel_rfl)) rfl ?_
                    have u6 := set5_upd Wb12 w.heap.size (.int .i64 0) (.int .i64 op) (.int .i64 0) (.int .i64 0) (.slice (some ⟨Wc10.heap.size, 0, none⟩) 2 2)
                    have hs2 := HB2.out
                    have hz := HZ.out
                    have hk6 := h5_12.upd u6 (by omega)
                    have hk06 := (PtK.upd u6 (fun k _ h e => by omega) _ _ _ hk0_12).mono (G := fun k => w.heap.size ≤ k) (fun k _ h => by omega) _ _ _
                    have hk16 := (PtK.upd u6 (fun k _ h e => by omega) _ _ _ hk1_12).mono (G := fun k => w.heap.size ≤ k) (fun k _ h => by omega) _ _ _
                    have hs0 := HS0.out
                    have hs1 := HS1.out
                    refine ⟨.mk 0 op 0 0 [q0, q1], some ⟨Wc10.heap.size, 0, none⟩, 2, _, rfl, .bin op _ _ HOP2.out Hq0.out Hq1.out, ?_, ?_, (hr12.upd u6 (fun k hk q e => by have := q.2; omega) (by omega)).mono (fun k _ h => h.1), (HU2.trans hU12 (fun _ _ h => h)).trans u6 (fun i hi e => by omega)⟩
                    · rw [Pt.size_two, Nat.pow_succ]; omega
                    · exact PtK.two _ _ _ _ hk6 hk06 hk16 (by omega) (by omega)
                  ·
                    obtain ⟨Wb13, HWb13⟩ := nm (Wc10.alloc (.cells #[.int .i64 q0.v, .int .i64 q0.op, .int .i64 q0.imm, .int .i64 q0.iv, .slice K0 q0.kids.length c0, .int .i64 q1.v, .int .i64 q1.op, .int .i64 q1.imm, .int .i64 q1.iv, .slice K1 q1.kids.length c1] 24))
                    have eWb13 := HWb13.out
                    have u13 : Upd Non Wc10 Wb13 := by rw [← eWb13]; exact Upd.refl.alloc _
                    have h5_13 : Blk Wb13 Wc10.heap.size 24 #[.int .i64 q0.v, .int .i64 q0.op, .int .i64 q0.imm, .int .i64 q0.iv, .slice K0 q0.kids.length c0, .int .i64 q1.v, .int .i64 q1.op, .int .i64 q1.imm, .int .i64 q1.iv, .slice K1 q1.kids.length c1] := by rw [← eWb13]; exact Blk.new _ _ _
                    have HZ := Lib.hid (hU10.size)
                    have hb13 := hb10.upd u13 (fun f => f)
                    have hr13 := hr10.upd u13 (fun _ _ _ f => f) (fun f => f)
                    have hU13 := hU10.then_non u13
                    have hk0_13 := PtK.upd u13 (fun _ _ _ f => f) _ _ _ hk0_10
                    have hk1_13 := PtK.upd u13 (fun _ _ _ f => f) _ _ _ hk1_10
                    have hi13 := cell_upd hi10 u13 (fun f => f)
                    clear HWb13
                    go_simp
                    refine hK.out _ _ trivial (fun _ => ?_)
                    clear hK K
                    try simp only [put_y]
                    try simp only [Act.put]
                    try simp only [put_z]
                    refine wpAnyH_ready (rs := [4]) (by kernel_rfl) (by simp) ?_
                    refine (AllReadyH.cons rfl (fun K hK => ?_) AllReadyH.nil)
                    go_simp
                    refine hK.out _ _ trivial (fun _ => ?_)
                    clear hK K
                    try simp only [put_y]
                    try simp only [Act.put]
                    try simp only [put_z]
                    refine wpAnyH_take (i := 16) (v := ?_) rfl (by kernel_rfl) (by kernel_rfl) (by kernel_rfl) (fun _ _ _ h => h) (Or.inl ⟨by rfl, ?_⟩) (by assumption) ?_
                    rotate_left
                    · intro w hSw; (try dsimp only at hSw); go_simp; try with_reducible rfl
                    try simp only [put_y]
                    try simp only [Act.put]
                    try simp only [put_z]
                    refine wpAnyH_ready (rs := [17]) (by kernel_rfl) (by simp) ?_
                    refine (AllReadyH.cons rfl (fun K hK => ?_) AllReadyH.nil)
                    have c0_ := hb13.cell 0
                    have c1_ := hb13.cell 1
                    have c2_ := hb13.cell 2
                    have c3_ := hb13.cell 3
                    have c4_ := hb13.cell 4
                    have f0 := hb13.frozen
                    go_simp
                    refine hK.out _ _ trivial (fun _ => ?_)
                    clear hK K
                    try simp only [put_y]
                    try simp only [Act.put]
                    try simp only [put_z]
                    refine wpAnyH_done (by kernel_rfl) ?_ _
                    go_wp2_with fail
                    rw [set5_eq]
                    refine bodyPost_ret (results_cell_row rfl _ _ w.heap.size 24 _ (0, 0) _ rfl (set5_blk hb13 _ _ _ _ _) Try.underlying24 rfl (by kernel_rfl)) rfl ?_
                    have u6 := set5_upd Wb13 w.heap.size (.int .i64 0) (.int .i64 op) (.int .i64 0) (.int .i64 0) (.slice (some ⟨Wc10.heap.size, 0, none⟩) 2 2)
                    have hs2 := HB2.out
                    have hz := HZ.out
                    have hk6 := h5_13.upd u6 (by omega)
                    have hk06 := (PtK.upd u6 (fun k _ h e => by omega) _ _ _ hk0_13).mono (G := fun k => w.heap.size ≤ k) (fun k _ h => by omega) _ _ _
                    have hk16 := (PtK.upd u6 (fun k _ h e => by omega) _ _ _ hk1_13).mono (G := fun k => w.heap.size ≤ k) (fun k _ h => by omega) _ _ _
                    have hs0 := HS0.out
                    have hs1 := HS1.out
                    refine ⟨.mk 0 op 0 0 [q0, q1], some ⟨Wc10.heap.size, 0, none⟩, 2, _, rfl, .bin op _ _ HOP2.out Hq0.out Hq1.out, ?_, ?_, (hr13.upd u6 (fun k hk q e => by have := q.2; omega) (by omega)).mono (fun k _ h => h.1), (HU2.trans hU13 (fun _ _ h => h)).trans u6 (fun i hi e => by omega)⟩
                    · rw [Pt.size_two, Nat.pow_succ]; omega
                    · exact PtK.two _ _ _ _ hk6 hk06 hk16 (by omega) (by omega)
            ·
              have CC := Lib.hid (HI.out wD _ p _ hFF hrD)
              unfold pv at CC
              go_simp
              try rw [hwk]
              refine CC.out.mono ?_
              rintro e Wc15 ⟨q0, K0, c0, y0, rfl, hq0, hs0, hk0_15, hr15, u15⟩
              clear CC
              have HS0 := Lib.hid hs0
              have Hq0 := Lib.hid hq0
              have hz15 := u15.size
              have hb15 := hbD.upd u15 (by omega)
              have hU15 := uDp.trans u15 (fun _ _ h => h)
              have hk0_15 := PtK.mono (G := fun k => w.heap.size < k) (fun k _ h => by have := HB2.out; have := uDp.size; omega) _ _ _ hk0_15
              clear hs0 hq0 hz15
              go_wp2_with fail
              refine hK.out _ _ trivial (fun _ => ?_)
              clear hK K
              try simp only [put_y]
              try simp only [Act.put]
              try simp only [put_z]
              refine wpAnyH_ready (rs := [0, 14]) (by kernel_rfl) (by simp) ?_
              refine (AllReadyH.cons rfl (fun K hK => ?_) (AllReadyH.cons rfl (fun K hK => ?_) AllReadyH.nil))
              ·
                obtain ⟨Wa16, HWa16⟩ := nm (Wc15.alloc (.cells #[.int .i64 4, .int .i64 5, .int .i64 6] 3))
                have eWa16 := HWa16.out
                have u16 : Upd Non Wc15 Wa16 := by rw [← eWa16]; exact Upd.refl.alloc _
                have hi16 : Wa16.cell? ⟨Wc15.heap.size, r, none⟩ = some (.int .i64 op) := by rw [← eWa16, (Blk.new Wc15 3 #[.int .i64 4, .int .i64 5, .int .i64 6]).cell]; exact HOP.out
                have hg16 : Wc15.heap.size ≠ p := by have := hr15.lt; omega
                have hb16 := hb15.upd u16 (fun f => f)
                have hr16 := hr15.upd u16 (fun _ _ _ f => f) (fun f => f)
                have hU16 := hU15.then_non u16
                have hk0_16 := PtK.upd u16 (fun _ _ _ f => f) _ _ _ hk0_15
                clear HWa16
                go_simp
                refine hK.out _ _ trivial (fun _ => ?_)
                clear hK K
                try simp only [put_y]
                try simp only [Act.put]
                try simp only [put_z]
                refine wpAnyH_take (i := 3) (v := ?_) rfl (by kernel_rfl) (by kernel_rfl) (by kernel_rfl) (fun _ _ _ h => h) (Or.inl ⟨by rfl, ?_⟩) (by assumption) ?_
                rotate_left
                · intro w hSw; (try dsimp only at hSw); go_simp; try with_reducible rfl
                try simp only [put_y]
                try simp only [Act.put]
                try simp only [put_z]
                refine wpAnyH_ready (rs := [4, 14]) (by kernel_rfl) (by simp) ?_
                refine (AllReadyH.cons rfl (fun K hK => ?_) (AllReadyH.cons rfl (fun K hK => ?_) AllReadyH.nil))
                ·
                  go_simp
                  refine hK.out _ _ trivial (fun _ => ?_)
                  clear hK K
                  try simp only [put_y]
                  try simp only [Act.put]
                  try simp only [put_z]
                  refine wpAnyH_ready (rs := [14]) (by kernel_rfl) (by simp) ?_
                  refine (AllReadyH.cons rfl (fun K hK => ?_) AllReadyH.nil)
                  have CC := Lib.hid (HI.out Wa16 _ p _ hFF hr16)
                  unfold pv at CC
                  go_simp
                  try rw [hwk]
                  refine CC.out.mono ?_
                  rintro e Wc18 ⟨q1, K1, c1, y1, rfl, hq1, hs1, hk1_18, hr18, u18⟩
                  clear CC
                  have HS1 := Lib.hid hs1
                  have Hq1 := Lib.hid hq1
                  have hz18 := u18.size
                  have hb18 := hb16.upd u18 (by omega)
                  have hi18 := cell_upd hi16 u18 hg16
                  have hU18 := hU16.trans u18 (fun _ _ h => h)
                  have hk1_18 := PtK.mono (G := fun k => w.heap.size < k) (fun k _ h => by have := HB2.out; have := hU16.size; omega) _ _ _ hk1_18
                  have hk0_18 := PtK.upd u18 (fun k _ h e => by omega) _ _ _ hk0_16
                  clear hs1 hq1 hz18
                  go_wp2_with fail
                  refine hK.out _ _ trivial (fun _ => ?_)
                  clear hK K
                  try simp only [put_y]
                  try simp only [Act.put]
                  try simp only [put_z]
                  refine wpAnyH_ready (rs := [15]) (by kernel_rfl) (by simp) ?_
                  refine (AllReadyH.cons rfl (fun K hK => ?_) AllReadyH.nil)
                  obtain ⟨Wb19, HWb19⟩ := nm (Wc18.alloc (.cells #[.int .i64 q0.v, .int .i64 q0.op, .int .i64 q0.imm, .int .i64 q0.iv, .slice K0 q0.kids.length c0, .int .i64 q1.v, .int .i64 q1.op, .int .i64 q1.imm, .int .i64 q1.iv, .slice K1 q1.kids.length c1] 24))
                  have eWb19 := HWb19.out
                  have u19 : Upd Non Wc18 Wb19 := by rw [← eWb19]; exact Upd.refl.alloc _
                  have h5_19 : Blk Wb19 Wc18.heap.size 24 #[.int .i64 q0.v, .int .i64 q0.op, .int .i64 q0.imm, .int .i64 q0.iv, .slice K0 q0.kids.length c0, .int .i64 q1.v, .int .i64 q1.op, .int .i64 q1.imm, .int .i64 q1.iv, .slice K1 q1.kids.length c1] := by rw [← eWb19]; exact Blk.new _ _ _
                  have HZ := Lib.hid (hU18.size)
                  have hb19 := hb18.upd u19 (fun f => f)
                  have hr19 := hr18.upd u19 (fun _ _ _ f => f) (fun f => f)
                  have hU19 := hU18.then_non u19
                  have hk0_19 := PtK.upd u19 (fun _ _ _ f => f) _ _ _ hk0_18
                  have hk1_19 := PtK.upd u19 (fun _ _ _ f => f) _ _ _ hk1_18
                  have hi19 := cell_upd hi18 u19 (fun f => f)
                  clear HWb19
                  go_simp
                  refine hK.out _ _ trivial (fun _ => ?_)
                  clear hK K
                  try simp only [put_y]
                  try simp only [Act.put]
                  try simp only [put_z]
                  refine wpAnyH_take (i := 16) (v := ?_) rfl (by kernel_rfl) (by kernel_rfl) (by kernel_rfl) (fun _ _ _ h => h) (Or.inl ⟨by rfl, ?_⟩) (by assumption) ?_
                  rotate_left
                  · intro w hSw; (try dsimp only at hSw); go_simp; try with_reducible rfl
                  try simp only [put_y]
                  try simp only [Act.put]
                  try simp only [put_z]
                  refine wpAnyH_ready (rs := [17]) (by kernel_rfl) (by simp) ?_
                  refine (AllReadyH.cons rfl (fun K hK => ?_) AllReadyH.nil)
                  have c0_ := hb19.cell 0
                  have c1_ := hb19.cell 1
                  have c2_ := hb19.cell 2
                  have c3_ := hb19.cell 3
                  have c4_ := hb19.cell 4
                  have f0 := hb19.frozen
                  go_simp
                  refine hK.out _ _ trivial (fun _ => ?_)
                  clear hK K
                  try simp only [put_y]
                  try simp only [Act.put]
                  try simp only [put_z]
                  refine wpAnyH_done (by kernel_rfl) ?_ _
                  go_wp2_with fail
                  rw [set5_eq]
                  refine bodyPost_ret (results_cell_row rfl _ _ w.heap.size 24 _ (0, 0) _ rfl (set5_blk hb19 _ _ _ _ _) Try.underlying24 rfl (by kernel_rfl)) rfl ?_
                  have u6 := set5_upd Wb19 w.heap.size (.int .i64 0) (.int .i64 op) (.int .i64 0) (.int .i64 0) (.slice (some ⟨Wc18.heap.size, 0, none⟩) 2 2)
                  have hs2 := HB2.out
                  have hz := HZ.out
                  have hk6 := h5_19.upd u6 (by omega)
                  have hk06 := (PtK.upd u6 (fun k _ h e => by omega) _ _ _ hk0_19).mono (G := fun k => w.heap.size ≤ k) (fun k _ h => by omega) _ _ _
                  have hk16 := (PtK.upd u6 (fun k _ h e => by omega) _ _ _ hk1_19).mono (G := fun k => w.heap.size ≤ k) (fun k _ h => by omega) _ _ _
                  have hs0 := HS0.out
                  have hs1 := HS1.out
                  refine ⟨.mk 0 op 0 0 [q0, q1], some ⟨Wc18.heap.size, 0, none⟩, 2, _, rfl, .bin op _ _ HOP2.out Hq0.out Hq1.out, ?_, ?_, (hr19.upd u6 (fun k hk q e => by have := q.2; omega) (by omega)).mono (fun k _ h => h.1), (HU2.trans hU19 (fun _ _ h => h)).trans u6 (fun i hi e => by omega)⟩
                  · rw [Pt.size_two, Nat.pow_succ]; omega
                  · exact PtK.two _ _ _ _ hk6 hk06 hk16 (by omega) (by omega)
                ·
                  have CC := Lib.hid (HI.out Wa16 _ p _ hFF hr16)
                  unfold pv at CC
                  go_simp
                  try rw [hwk]
                  refine CC.out.mono ?_
                  rintro e Wc20 ⟨q1, K1, c1, y1, rfl, hq1, hs1, hk1_20, hr20, u20⟩
                  clear CC
                  have HS1 := Lib.hid hs1
                  have Hq1 := Lib.hid hq1
                  have hz20 := u20.size
                  have hb20 := hb16.upd u20 (by omega)
                  have hi20 := cell_upd hi16 u20 hg16
                  have hU20 := hU16.trans u20 (fun _ _ h => h)
                  have hk1_20 := PtK.mono (G := fun k => w.heap.size < k) (fun k _ h => by have := HB2.out; have := hU16.size; omega) _ _ _ hk1_20
                  have hk0_20 := PtK.upd u20 (fun k _ h e => by omega) _ _ _ hk0_16
                  clear hs1 hq1 hz20
                  go_wp2_with fail
                  refine hK.out _ _ trivial (fun _ => ?_)
                  clear hK K
                  try simp only [put_y]
                  try simp only [Act.put]
                  try simp only [put_z]
                  refine wpAnyH_ready (rs := [4, 15]) (by kernel_rfl) (by simp) ?_
                  refine (AllReadyH.cons rfl (fun K hK => ?_) (AllReadyH.cons rfl (fun K hK => ?_) AllReadyH.nil))
                  ·
                    go_simp
                    refine hK.out _ _ trivial (fun _ => ?_)
                    clear hK K
                    try simp only [put_y]
                    try simp only [Act.put]
                    try simp only [put_z]
                    refine wpAnyH_ready (rs := [15]) (by kernel_rfl) (by simp) ?_
                    refine (AllReadyH.cons rfl (fun K hK => ?_) AllReadyH.nil)
                    obtain ⟨Wb22, HWb22⟩ := nm (Wc20.alloc (.cells #[.int .i64 q0.v, .int .i64 q0.op, .int .i64 q0.imm, .int .i64 q0.iv, .slice K0 q0.kids.length c0, .int .i64 q1.v, .int .i64 q1.op, .int .i64 q1.imm, .int .i64 q1.iv, .slice K1 q1.kids.length c1] 24))
                    have eWb22 := HWb22.out
                    have u22 : Upd Non Wc20 Wb22 := by rw [← eWb22]; exact Upd.refl.alloc _
                    have h5_22 : Blk Wb22 Wc20.heap.size 24 #[.int .i64 q0.v, .int .i64 q0.op, .int .i64 q0.imm, .int .i64 q0.iv, .slice K0 q0.kids.length c0, .int .i64 q1.v, .int .i64 q1.op, .int .i64 q1.imm, .int .i64 q1.iv, .slice K1 q1.kids.length c1] := by rw [← eWb22]; exact Blk.new _ _ _
                    have HZ := Lib.hid (hU20.size)
                    have hb22 := hb20.upd u22 (fun f => f)
                    have hr22 := hr20.upd u22 (fun _ _ _ f => f) (fun f => f)
                    have hU22 := hU20.then_non u22
                    have hk0_22 := PtK.upd u22 (fun _ _ _ f => f) _ _ _ hk0_20
                    have hk1_22 := PtK.upd u22 (fun _ _ _ f => f) _ _ _ hk1_20
                    have hi22 := cell_upd hi20 u22 (fun f => f)
                    clear HWb22
                    go_simp
                    refine hK.out _ _ trivial (fun _ => ?_)
                    clear hK K
                    try simp only [put_y]
                    try simp only [Act.put]
                    try simp only [put_z]
                    refine wpAnyH_take (i := 16) (v := ?_) rfl (by kernel_rfl) (by kernel_rfl) (by kernel_rfl) (fun _ _ _ h => h) (Or.inl ⟨by rfl, ?_⟩) (by assumption) ?_
                    rotate_left
                    · intro w hSw; (try dsimp only at hSw); go_simp; try with_reducible rfl
                    try simp only [put_y]
                    try simp only [Act.put]
                    try simp only [put_z]
                    refine wpAnyH_ready (rs := [17]) (by kernel_rfl) (by simp) ?_
                    refine (AllReadyH.cons rfl (fun K hK => ?_) AllReadyH.nil)
                    have c0_ := hb22.cell 0
                    have c1_ := hb22.cell 1
                    have c2_ := hb22.cell 2
                    have c3_ := hb22.cell 3
                    have c4_ := hb22.cell 4
                    have f0 := hb22.frozen
                    go_simp
                    refine hK.out _ _ trivial (fun _ => ?_)
                    clear hK K
                    try simp only [put_y]
                    try simp only [Act.put]
                    try simp only [put_z]
                    refine wpAnyH_done (by kernel_rfl) ?_ _
                    go_wp2_with fail
                    rw [set5_eq]
                    refine bodyPost_ret (results_cell_row rfl _ _ w.heap.size 24 _ (0, 0) _ rfl (set5_blk hb22 _ _ _ _ _) Try.underlying24 rfl (by kernel_rfl)) rfl ?_
                    have u6 := set5_upd Wb22 w.heap.size (.int .i64 0) (.int .i64 op) (.int .i64 0) (.int .i64 0) (.slice (some ⟨Wc20.heap.size, 0, none⟩) 2 2)
                    have hs2 := HB2.out
                    have hz := HZ.out
                    have hk6 := h5_22.upd u6 (by omega)
                    have hk06 := (PtK.upd u6 (fun k _ h e => by omega) _ _ _ hk0_22).mono (G := fun k => w.heap.size ≤ k) (fun k _ h => by omega) _ _ _
                    have hk16 := (PtK.upd u6 (fun k _ h e => by omega) _ _ _ hk1_22).mono (G := fun k => w.heap.size ≤ k) (fun k _ h => by omega) _ _ _
                    have hs0 := HS0.out
                    have hs1 := HS1.out
                    refine ⟨.mk 0 op 0 0 [q0, q1], some ⟨Wc20.heap.size, 0, none⟩, 2, _, rfl, .bin op _ _ HOP2.out Hq0.out Hq1.out, ?_, ?_, (hr22.upd u6 (fun k hk q e => by have := q.2; omega) (by omega)).mono (fun k _ h => h.1), (HU2.trans hU22 (fun _ _ h => h)).trans u6 (fun i hi e => by omega)⟩
                    · rw [Pt.size_two, Nat.pow_succ]; omega
                    · exact PtK.two _ _ _ _ hk6 hk06 hk16 (by omega) (by omega)
                  ·
                    obtain ⟨Wb23, HWb23⟩ := nm (Wc20.alloc (.cells #[.int .i64 q0.v, .int .i64 q0.op, .int .i64 q0.imm, .int .i64 q0.iv, .slice K0 q0.kids.length c0, .int .i64 q1.v, .int .i64 q1.op, .int .i64 q1.imm, .int .i64 q1.iv, .slice K1 q1.kids.length c1] 24))
                    have eWb23 := HWb23.out
                    have u23 : Upd Non Wc20 Wb23 := by rw [← eWb23]; exact Upd.refl.alloc _
                    have h5_23 : Blk Wb23 Wc20.heap.size 24 #[.int .i64 q0.v, .int .i64 q0.op, .int .i64 q0.imm, .int .i64 q0.iv, .slice K0 q0.kids.length c0, .int .i64 q1.v, .int .i64 q1.op, .int .i64 q1.imm, .int .i64 q1.iv, .slice K1 q1.kids.length c1] := by rw [← eWb23]; exact Blk.new _ _ _
                    have HZ := Lib.hid (hU20.size)
                    have hb23 := hb20.upd u23 (fun f => f)
                    have hr23 := hr20.upd u23 (fun _ _ _ f => f) (fun f => f)
                    have hU23 := hU20.then_non u23
                    have hk0_23 := PtK.upd u23 (fun _ _ _ f => f) _ _ _ hk0_20
                    have hk1_23 := PtK.upd u23 (fun _ _ _ f => f) _ _ _ hk1_20
                    have hi23 := cell_upd hi20 u23 (fun f => f)
                    clear HWb23
                    go_simp
                    refine hK.out _ _ trivial (fun _ => ?_)
                    clear hK K
                    try simp only [put_y]
                    try simp only [Act.put]
                    try simp only [put_z]
                    refine wpAnyH_ready (rs := [4]) (by kernel_rfl) (by simp) ?_
                    refine (AllReadyH.cons rfl (fun K hK => ?_) AllReadyH.nil)
                    go_simp
                    refine hK.out _ _ trivial (fun _ => ?_)
                    clear hK K
                    try simp only [put_y]
                    try simp only [Act.put]
                    try simp only [put_z]
                    refine wpAnyH_take (i := 16) (v := ?_) rfl (by kernel_rfl) (by kernel_rfl) (by kernel_rfl) (fun _ _ _ h => h) (Or.inl ⟨by rfl, ?_⟩) (by assumption) ?_
                    rotate_left
                    · intro w hSw; (try dsimp only at hSw); go_simp; try with_reducible rfl
                    try simp only [put_y]
                    try simp only [Act.put]
                    try simp only [put_z]
                    refine wpAnyH_ready (rs := [17]) (by kernel_rfl) (by simp) ?_
                    refine (AllReadyH.cons rfl (fun K hK => ?_) AllReadyH.nil)
                    have c0_ := hb23.cell 0
                    have c1_ := hb23.cell 1
                    have c2_ := hb23.cell 2
                    have c3_ := hb23.cell 3
                    have c4_ := hb23.cell 4
                    have f0 := hb23.frozen
                    go_simp
                    refine hK.out _ _ trivial (fun _ => ?_)
                    clear hK K
                    try simp only [put_y]
                    try simp only [Act.put]
                    try simp only [put_z]
                    refine wpAnyH_done (by kernel_rfl) ?_ _
                    go_wp2_with fail
                    rw [set5_eq]
                    refine bodyPost_ret (results_cell_row rfl _ _ w.heap.size 24 _ (0, 0) _ rfl (set5_blk hb23 _ _ _ _ _) Try.underlying24 rfl (by kernel_rfl)) rfl ?_
                    have u6 := set5_upd Wb23 w.heap.size (.int .i64 0) (.int .i64 op) (.int .i64 0) (.int .i64 0) (.slice (some ⟨Wc20.heap.size, 0, none⟩) 2 2)
                    have hs2 := HB2.out
                    have hz := HZ.out
                    have hk6 := h5_23.upd u6 (by omega)
                    have hk06 := (PtK.upd u6 (fun k _ h e => by omega) _ _ _ hk0_23).mono (G := fun k => w.heap.size ≤ k) (fun k _ h => by omega) _ _ _
                    have hk16 := (PtK.upd u6 (fun k _ h e => by omega) _ _ _ hk1_23).mono (G := fun k => w.heap.size ≤ k) (fun k _ h => by omega) _ _ _
                    have hs0 := HS0.out
                    have hs1 := HS1.out
                    refine ⟨.mk 0 op 0 0 [q0, q1], some ⟨Wc20.heap.size, 0, none⟩, 2, _, rfl, .bin op _ _ HOP2.out Hq0.out Hq1.out, ?_, ?_, (hr23.upd u6 (fun k hk q e => by have := q.2; omega) (by omega)).mono (fun k _ h => h.1), (HU2.trans hU23 (fun _ _ h => h)).trans u6 (fun i hi e => by omega)⟩
                    · rw [Pt.size_two, Nat.pow_succ]; omega
                    · exact PtK.two _ _ _ _ hk6 hk06 hk16 (by omega) (by omega)
              ·
                have CC := Lib.hid (HI.out Wc15 _ p _ hFF hr15)
                unfold pv at CC
                go_simp
                try rw [hwk]
                refine CC.out.mono ?_
                rintro e Wc25 ⟨q1, K1, c1, y1, rfl, hq1, hs1, hk1_25, hr25, u25⟩
                clear CC
                have HS1 := Lib.hid hs1
                have Hq1 := Lib.hid hq1
                have hz25 := u25.size
                have hb25 := hb15.upd u25 (by omega)
                have hU25 := hU15.trans u25 (fun _ _ h => h)
                have hk1_25 := PtK.mono (G := fun k => w.heap.size < k) (fun k _ h => by have := HB2.out; have := hU15.size; omega) _ _ _ hk1_25
                have hk0_25 := PtK.upd u25 (fun k _ h e => by omega) _ _ _ hk0_15
                clear hs1 hq1 hz25
                go_wp2_with fail
                refine hK.out _ _ trivial (fun _ => ?_)
                clear hK K
                try simp only [put_y]
                try simp only [Act.put]
                try simp only [put_z]
                refine wpAnyH_ready (rs := [0, 15]) (by kernel_rfl) (by simp) ?_
                refine (AllReadyH.cons rfl (fun K hK => ?_) (AllReadyH.cons rfl (fun K hK => ?_) AllReadyH.nil))
                ·
                  obtain ⟨Wa26, HWa26⟩ := nm (Wc25.alloc (.cells #[.int .i64 4, .int .i64 5, .int .i64 6] 3))
                  have eWa26 := HWa26.out
                  have u26 : Upd Non Wc25 Wa26 := by rw [← eWa26]; exact Upd.refl.alloc _
                  have hi26 : Wa26.cell? ⟨Wc25.heap.size, r, none⟩ = some (.int .i64 op) := by rw [← eWa26, (Blk.new Wc25 3 #[.int .i64 4, .int .i64 5, .int .i64 6]).cell]; exact HOP.out
                  have hg26 : Wc25.heap.size ≠ p := by have := hr25.lt; omega
                  have hb26 := hb25.upd u26 (fun f => f)
                  have hr26 := hr25.upd u26 (fun _ _ _ f => f) (fun f => f)
                  have hU26 := hU25.then_non u26
                  have hk0_26 := PtK.upd u26 (fun _ _ _ f => f) _ _ _ hk0_25
                  have hk1_26 := PtK.upd u26 (fun _ _ _ f => f) _ _ _ hk1_25
                  clear HWa26
                  go_simp
                  refine hK.out _ _ trivial (fun _ => ?_)
                  clear hK K
                  try simp only [put_y]
                  try simp only [Act.put]
                  try simp only [put_z]
                  refine wpAnyH_take (i := 3) (v := ?_) rfl (by kernel_rfl) (by kernel_rfl) (by kernel_rfl) (fun _ _ _ h => h) (Or.inl ⟨by rfl, ?_⟩) (by assumption) ?_
                  rotate_left
                  · intro w hSw; (try dsimp only at hSw); go_simp; try with_reducible rfl
                  try simp only [put_y]
                  try simp only [Act.put]
                  try simp only [put_z]
                  refine wpAnyH_ready (rs := [4, 15]) (by kernel_rfl) (by simp) ?_
                  refine (AllReadyH.cons rfl (fun K hK => ?_) (AllReadyH.cons rfl (fun K hK => ?_) AllReadyH.nil))
                  ·
                    go_simp
                    refine hK.out _ _ trivial (fun _ => ?_)
                    clear hK K
                    try simp only [put_y]
                    try simp only [Act.put]
                    try simp only [put_z]
                    refine wpAnyH_ready (rs := [15]) (by kernel_rfl) (by simp) ?_
                    refine (AllReadyH.cons rfl (fun K hK => ?_) AllReadyH.nil)
                    obtain ⟨Wb28, HWb28⟩ := nm (Wa26.alloc (.cells #[.int .i64 q0.v, .int .i64 q0.op, .int .i64 q0.imm, .int .i64 q0.iv, .slice K0 q0.kids.length c0, .int .i64 q1.v, .int .i64 q1.op, .int .i64 q1.imm, .int .i64 q1.iv, .slice K1 q1.kids.length c1] 24))
                    have eWb28 := HWb28.out
                    have u28 : Upd Non Wa26 Wb28 := by rw [← eWb28]; exact Upd.refl.alloc _
                    have h5_28 : Blk Wb28 Wa26.heap.size 24 #[.int .i64 q0.v, .int .i64 q0.op, .int .i64 q0.imm, .int .i64 q0.iv, .slice K0 q0.kids.length c0, .int .i64 q1.v, .int .i64 q1.op, .int .i64 q1.imm, .int .i64 q1.iv, .slice K1 q1.kids.length c1] := by rw [← eWb28]; exact Blk.new _ _ _
                    have HZ := Lib.hid (hU26.size)
                    have hb28 := hb26.upd u28 (fun f => f)
                    have hr28 := hr26.upd u28 (fun _ _ _ f => f) (fun f => f)
                    have hU28 := hU26.then_non u28
                    have hk0_28 := PtK.upd u28 (fun _ _ _ f => f) _ _ _ hk0_26
                    have hk1_28 := PtK.upd u28 (fun _ _ _ f => f) _ _ _ hk1_26
                    have hi28 := cell_upd hi26 u28 (fun f => f)
                    clear HWb28
                    go_simp
                    refine hK.out _ _ trivial (fun _ => ?_)
                    clear hK K
                    try simp only [put_y]
                    try simp only [Act.put]
                    try simp only [put_z]
                    refine wpAnyH_take (i := 16) (v := ?_) rfl (by kernel_rfl) (by kernel_rfl) (by kernel_rfl) (fun _ _ _ h => h) (Or.inl ⟨by rfl, ?_⟩) (by assumption) ?_
                    rotate_left
                    · intro w hSw; (try dsimp only at hSw); go_simp; try with_reducible rfl
                    try simp only [put_y]
                    try simp only [Act.put]
                    try simp only [put_z]
                    refine wpAnyH_ready (rs := [17]) (by kernel_rfl) (by simp) ?_
                    refine (AllReadyH.cons rfl (fun K hK => ?_) AllReadyH.nil)
                    have c0_ := hb28.cell 0
                    have c1_ := hb28.cell 1
                    have c2_ := hb28.cell 2
                    have c3_ := hb28.cell 3
                    have c4_ := hb28.cell 4
                    have f0 := hb28.frozen
                    go_simp
                    refine hK.out _ _ trivial (fun _ => ?_)
                    clear hK K
                    try simp only [put_y]
                    try simp only [Act.put]
                    try simp only [put_z]
                    refine wpAnyH_done (by kernel_rfl) ?_ _
                    go_wp2_with fail
                    rw [set5_eq]
                    refine bodyPost_ret (results_cell_row rfl _ _ w.heap.size 24 _ (0, 0) _ rfl (set5_blk hb28 _ _ _ _ _) Try.underlying24 rfl (by kernel_rfl)) rfl ?_
                    have u6 := set5_upd Wb28 w.heap.size (.int .i64 0) (.int .i64 op) (.int .i64 0) (.int .i64 0) (.slice (some ⟨Wa26.heap.size, 0, none⟩) 2 2)
                    have hs2 := HB2.out
                    have hz := HZ.out
                    have hk6 := h5_28.upd u6 (by omega)
                    have hk06 := (PtK.upd u6 (fun k _ h e => by omega) _ _ _ hk0_28).mono (G := fun k => w.heap.size ≤ k) (fun k _ h => by omega) _ _ _
                    have hk16 := (PtK.upd u6 (fun k _ h e => by omega) _ _ _ hk1_28).mono (G := fun k => w.heap.size ≤ k) (fun k _ h => by omega) _ _ _
                    have hs0 := HS0.out
                    have hs1 := HS1.out
                    refine ⟨.mk 0 op 0 0 [q0, q1], some ⟨Wa26.heap.size, 0, none⟩, 2, _, rfl, .bin op _ _ HOP2.out Hq0.out Hq1.out, ?_, ?_, (hr28.upd u6 (fun k hk q e => by have := q.2; omega) (by omega)).mono (fun k _ h => h.1), (HU2.trans hU28 (fun _ _ h => h)).trans u6 (fun i hi e => by omega)⟩
                    · rw [Pt.size_two, Nat.pow_succ]; omega
                    · exact PtK.two _ _ _ _ hk6 hk06 hk16 (by omega) (by omega)
                  ·
                    obtain ⟨Wb29, HWb29⟩ := nm (Wa26.alloc (.cells #[.int .i64 q0.v, .int .i64 q0.op, .int .i64 q0.imm, .int .i64 q0.iv, .slice K0 q0.kids.length c0, .int .i64 q1.v, .int .i64 q1.op, .int .i64 q1.imm, .int .i64 q1.iv, .slice K1 q1.kids.length c1] 24))
                    have eWb29 := HWb29.out
                    have u29 : Upd Non Wa26 Wb29 := by rw [← eWb29]; exact Upd.refl.alloc _
                    have h5_29 : Blk Wb29 Wa26.heap.size 24 #[.int .i64 q0.v, .int .i64 q0.op, .int .i64 q0.imm, .int .i64 q0.iv, .slice K0 q0.kids.length c0, .int .i64 q1.v, .int .i64 q1.op, .int .i64 q1.imm, .int .i64 q1.iv, .slice K1 q1.kids.length c1] := by rw [← eWb29]; exact Blk.new _ _ _
                    have HZ := Lib.hid (hU26.size)
                    have hb29 := hb26.upd u29 (fun f => f)
                    have hr29 := hr26.upd u29 (fun _ _ _ f => f) (fun f => f)
                    have hU29 := hU26.then_non u29
                    have hk0_29 := PtK.upd u29 (fun _ _ _ f => f) _ _ _ hk0_26
                    have hk1_29 := PtK.upd u29 (fun _ _ _ f => f) _ _ _ hk1_26
                    have hi29 := cell_upd hi26 u29 (fun f => f)
                    clear HWb29
                    go_simp
                    refine hK.out _ _ trivial (fun _ => ?_)
                    clear hK K
                    try simp only [put_y]
                    try simp only [Act.put]
                    try simp only [put_z]
                    refine wpAnyH_ready (rs := [4]) (by kernel_rfl) (by simp) ?_
                    refine (AllReadyH.cons rfl (fun K hK => ?_) AllReadyH.nil)
                    go_simp
                    refine hK.out _ _ trivial (fun _ => ?_)
                    clear hK K
                    try simp only [put_y]
                    try simp only [Act.put]
                    try simp only [put_z]
                    refine wpAnyH_take (i := 16) (v := ?_) rfl (by kernel_rfl) (by kernel_rfl) (by kernel_rfl) (fun _ _ _ h => h) (Or.inl ⟨by rfl, ?_⟩) (by assumption) ?_
                    rotate_left
                    · intro w hSw; (try dsimp only at hSw); go_simp; try with_reducible rfl
                    try simp only [put_y]
                    try simp only [Act.put]
                    try simp only [put_z]
                    refine wpAnyH_ready (rs := [17]) (by kernel_rfl) (by simp) ?_
                    refine (AllReadyH.cons rfl (fun K hK => ?_) AllReadyH.nil)
                    have c0_ := hb29.cell 0
                    have c1_ := hb29.cell 1
                    have c2_ := hb29.cell 2
                    have c3_ := hb29.cell 3
                    have c4_ := hb29.cell 4
                    have f0 := hb29.frozen
                    go_simp
                    refine hK.out _ _ trivial (fun _ => ?_)
                    clear hK K
                    try simp only [put_y]
                    try simp only [Act.put]
                    try simp only [put_z]
                    refine wpAnyH_done (by kernel_rfl) ?_ _
                    go_wp2_with fail
                    rw [set5_eq]
                    refine bodyPost_ret (results_cell_row rfl _ _ w.heap.size 24 _ (0, 0) _ rfl (set5_blk hb29 _ _ _ _ _) Try.underlying24 rfl (by kernel_rfl)) rfl ?_
                    have u6 := set5_upd Wb29 w.heap.size (.int .i64 0) (.int .i64 op) (.int .i64 0) (.int .i64 0) (.slice (some ⟨Wa26.heap.size, 0, none⟩) 2 2)
                    have hs2 := HB2.out
                    have hz := HZ.out
                    have hk6 := h5_29.upd u6 (by omega)
                    have hk06 := (PtK.upd u6 (fun k _ h e => by omega) _ _ _ hk0_29).mono (G := fun k => w.heap.size ≤ k) (fun k _ h => by omega) _ _ _
                    have hk16 := (PtK.upd u6 (fun k _ h e => by omega) _ _ _ hk1_29).mono (G := fun k => w.heap.size ≤ k) (fun k _ h => by omega) _ _ _
                    have hs0 := HS0.out
                    have hs1 := HS1.out
                    refine ⟨.mk 0 op 0 0 [q0, q1], some ⟨Wa26.heap.size, 0, none⟩, 2, _, rfl, .bin op _ _ HOP2.out Hq0.out Hq1.out, ?_, ?_, (hr29.upd u6 (fun k hk q e => by have := q.2; omega) (by omega)).mono (fun k _ h => h.1), (HU2.trans hU29 (fun _ _ h => h)).trans u6 (fun i hi e => by omega)⟩
                    · rw [Pt.size_two, Nat.pow_succ]; omega
                    · exact PtK.two _ _ _ _ hk6 hk06 hk16 (by omega) (by omega)
                ·
                  obtain ⟨Wb31, HWb31⟩ := nm (Wc25.alloc (.cells #[.int .i64 q0.v, .int .i64 q0.op, .int .i64 q0.imm, .int .i64 q0.iv, .slice K0 q0.kids.length c0, .int .i64 q1.v, .int .i64 q1.op, .int .i64 q1.imm, .int .i64 q1.iv, .slice K1 q1.kids.length c1] 24))
                  have eWb31 := HWb31.out
                  have u31 : Upd Non Wc25 Wb31 := by rw [← eWb31]; exact Upd.refl.alloc _
                  have h5_31 : Blk Wb31 Wc25.heap.size 24 #[.int .i64 q0.v, .int .i64 q0.op, .int .i64 q0.imm, .int .i64 q0.iv, .slice K0 q0.kids.length c0, .int .i64 q1.v, .int .i64 q1.op, .int .i64 q1.imm, .int .i64 q1.iv, .slice K1 q1.kids.length c1] := by rw [← eWb31]; exact Blk.new _ _ _
                  have HZ := Lib.hid (hU25.size)
                  have hb31 := hb25.upd u31 (fun f => f)
                  have hr31 := hr25.upd u31 (fun _ _ _ f => f) (fun f => f)
                  have hU31 := hU25.then_non u31
                  have hk0_31 := PtK.upd u31 (fun _ _ _ f => f) _ _ _ hk0_25
                  have hk1_31 := PtK.upd u31 (fun _ _ _ f => f) _ _ _ hk1_25
                  clear HWb31
                  go_simp
                  refine hK.out _ _ trivial (fun _ => ?_)
                  clear hK K
                  try simp only [put_y]
                  try simp only [Act.put]
                  try simp only [put_z]
                  refine wpAnyH_ready (rs := [0]) (by kernel_rfl) (by simp) ?_
                  refine (AllReadyH.cons rfl (fun K hK => ?_) AllReadyH.nil)
                  obtain ⟨Wa32, HWa32⟩ := nm (Wb31.alloc (.cells #[.int .i64 4, .int .i64 5, .int .i64 6] 3))
                  have eWa32 := HWa32.out
                  have u32 : Upd Non Wb31 Wa32 := by rw [← eWa32]; exact Upd.refl.alloc _
                  have hi32 : Wa32.cell? ⟨Wb31.heap.size, r, none⟩ = some (.int .i64 op) := by rw [← eWa32, (Blk.new Wb31 3 #[.int .i64 4, .int .i64 5, .int .i64 6]).cell]; exact HOP.out
                  have hg32 : Wb31.heap.size ≠ p := by have := hr31.lt; omega
                  have hb32 := hb31.upd u32 (fun f => f)
                  have hr32 := hr31.upd u32 (fun _ _ _ f => f) (fun f => f)
                  have hU32 := hU31.then_non u32
                  have hk0_32 := PtK.upd u32 (fun _ _ _ f => f) _ _ _ hk0_31
                  have hk1_32 := PtK.upd u32 (fun _ _ _ f => f) _ _ _ hk1_31
                  have h5_32 := h5_31.upd u32 (fun f => f)
                  clear HWa32
                  go_simp
                  refine hK.out _ _ trivial (fun _ => ?_)
                  clear hK K
                  try simp only [put_y]
                  try simp only [Act.put]
                  try simp only [put_z]
                  refine wpAnyH_take (i := 3) (v := ?_) rfl (by kernel_rfl) (by kernel_rfl) (by kernel_rfl) (fun _ _ _ h => h) (Or.inl ⟨by rfl, ?_⟩) (by assumption) ?_
                  rotate_left
                  · intro w hSw; (try dsimp only at hSw); go_simp; try with_reducible rfl
                  try simp only [put_y]
                  try simp only [Act.put]
                  try simp only [put_z]
                  refine wpAnyH_ready (rs := [4]) (by kernel_rfl) (by simp) ?_
                  refine (AllReadyH.cons rfl (fun K hK => ?_) AllReadyH.nil)
                  go_simp
                  refine hK.out _ _ trivial (fun _ => ?_)
                  clear hK K
                  try simp only [put_y]
                  try simp only [Act.put]
                  try simp only [put_z]
                  refine wpAnyH_take (i := 16) (v := ?_) rfl (by kernel_rfl) (by kernel_rfl) (by kernel_rfl) (fun _ _ _ h => h) (Or.inl ⟨by rfl, ?_⟩) (by assumption) ?_
                  rotate_left
                  · intro w hSw; (try dsimp only at hSw); go_simp; try with_reducible rfl
                  try simp only [put_y]
                  try simp only [Act.put]
                  try simp only [put_z]
                  refine wpAnyH_ready (rs := [17]) (by kernel_rfl) (by simp) ?_
                  refine (AllReadyH.cons rfl (fun K hK => ?_) AllReadyH.nil)
                  have c0_ := hb32.cell 0
                  have c1_ := hb32.cell 1
                  have c2_ := hb32.cell 2
                  have c3_ := hb32.cell 3
                  have c4_ := hb32.cell 4
                  have f0 := hb32.frozen
                  go_simp
                  refine hK.out _ _ trivial (fun _ => ?_)
                  clear hK K
                  try simp only [put_y]
                  try simp only [Act.put]
                  try simp only [put_z]
                  refine wpAnyH_done (by kernel_rfl) ?_ _
                  go_wp2_with fail
                  rw [set5_eq]
                  refine bodyPost_ret (results_cell_row rfl _ _ w.heap.size 24 _ (0, 0) _ rfl (set5_blk hb32 _ _ _ _ _) Try.underlying24 rfl (by kernel_rfl)) rfl ?_
                  have u6 := set5_upd Wa32 w.heap.size (.int .i64 0) (.int .i64 op) (.int .i64 0) (.int .i64 0) (.slice (some ⟨Wc25.heap.size, 0, none⟩) 2 2)
                  have hs2 := HB2.out
                  have hz := HZ.out
                  have hk6 := h5_32.upd u6 (by omega)
                  have hk06 := (PtK.upd u6 (fun k _ h e => by omega) _ _ _ hk0_32).mono (G := fun k => w.heap.size ≤ k) (fun k _ h => by omega) _ _ _
                  have hk16 := (PtK.upd u6 (fun k _ h e => by omega) _ _ _ hk1_32).mono (G := fun k => w.heap.size ≤ k) (fun k _ h => by omega) _ _ _
                  have hs0 := HS0.out
                  have hs1 := HS1.out
                  refine ⟨.mk 0 op 0 0 [q0, q1], some ⟨Wc25.heap.size, 0, none⟩, 2, _, rfl, .bin op _ _ HOP2.out Hq0.out Hq1.out, ?_, ?_, (hr32.upd u6 (fun k hk q e => by have := q.2; omega) (by omega)).mono (fun k _ h => h.1), (HU2.trans hU32 (fun _ _ h => h)).trans u6 (fun i hi e => by omega)⟩
                  · rw [Pt.size_two, Nat.pow_succ]; omega
                  · exact PtK.two _ _ _ _ hk6 hk06 hk16 (by omega) (by omega)
end Go.Proofs.Ytnefhokojbkppaa
