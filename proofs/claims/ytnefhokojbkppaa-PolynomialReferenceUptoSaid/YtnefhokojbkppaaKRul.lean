/-
  What keep.Rule does: it makes the rule that kRuleF tells.
-/
import Derived.Test.YtnefhokojbkppaaNumB
import Derived.Test.YtnefhokojbkppaaKPtC
import Derived.Test.YtnefhokojbkppaaPatL
namespace Go.Proofs.Ytnefhokojbkppaa
open Go.RowKit

/-! The fourteen cells of a rule, stored one after the other -/

def set14 (w : World) (g : Nat) (a b c d e f g1 h i j k l m n : Value) : World := (((((((((set5 w g a b c d e).setCell ⟨g, 5, none⟩ f).setCell ⟨g, 6, none⟩ g1).setCell ⟨g, 7, none⟩ h).setCell ⟨g, 8, none⟩ i).setCell ⟨g, 9, none⟩ j).setCell ⟨g, 10, none⟩ k).setCell ⟨g, 11, none⟩ l).setCell ⟨g, 12, none⟩ m).setCell ⟨g, 13, none⟩ n
theorem set14_blk {w : World} {g : Nat} {t : TypeId} {x0 x1 x2 x3 x4 x5 x6 x7 x8 x9 x10 x11 x12 x13 : Value} (h : Blk w g t #[x0, x1, x2, x3, x4, x5, x6, x7, x8, x9, x10, x11, x12, x13]) (a b c d e f g1 i j k l m n o : Value) : Blk (set14 w g a b c d e f g1 i j k l m n o) g t #[a, b, c, d, e, f, g1, i, j, k, l, m, n, o] := by
  unfold set14 set5
  simpa using (((((((((((((h.set_ 0 a).set_ 1 b).set_ 2 c).set_ 3 d).set_ 4 e).set_ 5 f).set_ 6 g1).set_ 7 i).set_ 8 j).set_ 9 k).set_ 10 l).set_ 11 m).set_ 12 n).set_ 13 o
theorem set14_upd (w : World) (g : Nat) (a b c d e f g1 i j k l m n o : Value) : Upd (· = g) w (set14 w g a b c d e f g1 i j k l m n o) := by
  have s : ∀ (w : World) (i : Nat) (v : Value), Upd (· = g) w (w.setCell ⟨g, i, none⟩ v) := fun w i v => updCell _ _ _ _
  have t : ∀ {a b c : World}, Upd (· = g) a b → Upd (· = g) b c → Upd (· = g) a c := fun h k => h.trans k (fun _ _ h => h)
  exact t (t (t (t (t (t (t (t (t (set5_upd _ _ _ _ _ _ _) (s _ _ _)) (s _ _ _)) (s _ _ _)) (s _ _ _)) (s _ _ _)) (s _ _ _)) (s _ _ _)) (s _ _ _)) (s _ _ _)
theorem set14_eq (w : World) (g : Nat) (a b c d e f g1 h i j k l m n : Value) : (((((((((((((w.setCell ⟨g, 0, none⟩ a).setCell ⟨g, 1, none⟩ b).setCell ⟨g, 2, none⟩ c).setCell ⟨g, 3, none⟩ d).setCell ⟨g, 4, none⟩ e).setCell ⟨g, 5, none⟩ f).setCell ⟨g, 6, none⟩ g1).setCell ⟨g, 7, none⟩ h).setCell ⟨g, 8, none⟩ i).setCell ⟨g, 9, none⟩ j).setCell ⟨g, 10, none⟩ k).setCell ⟨g, 11, none⟩ l).setCell ⟨g, 12, none⟩ m).setCell ⟨g, 13, none⟩ n = set14 w g a b c d e f g1 h i j k l m n := rfl
/-- The right side stored. -/
def setRt (w : World) (g : Nat) (a b c d e : Value) : World := ((((w.setCell ⟨g, 6, none⟩ a).setCell ⟨g, 7, none⟩ b).setCell ⟨g, 8, none⟩ c).setCell ⟨g, 9, none⟩ d).setCell ⟨g, 10, none⟩ e
theorem setRt_blk {w : World} {g : Nat} {t : TypeId} {x0 x1 x2 x3 x4 x5 x6 x7 x8 x9 x10 x11 x12 x13 : Value} (h : Blk w g t #[x0, x1, x2, x3, x4, x5, x6, x7, x8, x9, x10, x11, x12, x13]) (a b c d e : Value) : Blk (setRt w g a b c d e) g t #[x0, x1, x2, x3, x4, x5, a, b, c, d, e, x11, x12, x13] := by
  unfold setRt
  simpa using ((((h.set_ 6 a).set_ 7 b).set_ 8 c).set_ 9 d).set_ 10 e
theorem setRt_upd (w : World) (g : Nat) (a b c d e : Value) : Upd (· = g) w (setRt w g a b c d e) := by
  have s : ∀ (w : World) (i : Nat) (v : Value), Upd (· = g) w (w.setCell ⟨g, i, none⟩ v) := fun w i v => updCell _ _ _ _
  have t : ∀ {a b c : World}, Upd (· = g) a b → Upd (· = g) b c → Upd (· = g) a c := fun h k => h.trans k (fun _ _ h => h)
  exact t (t (t (t (s _ _ _) (s _ _ _)) (s _ _ _)) (s _ _ _)) (s _ _ _)
theorem setRt_eq (w : World) (g : Nat) (a b c d e : Value) : ((((w.setCell ⟨g, 6, none⟩ a).setCell ⟨g, 7, none⟩ b).setCell ⟨g, 8, none⟩ c).setCell ⟨g, 9, none⟩ d).setCell ⟨g, 10, none⟩ e = setRt w g a b c d e := rfl

theorem cond_one {w : World} {g : Nat} {x0 x1 x2 x3 x4 x5 x6 x7 x8 x9 x10 x11 x12 x13 : Value} (b : Blk w g 51 #[x0, x1, x2, x3, x4, x5, x6, x7, x8, x9, x10, x11, x12, x13]) (c : Cd) :
    Blk ((w.alloc (.cells #[.int .i64 c.kind, .int .i64 c.a, .int .i64 c.b, .int .i64 c.n] 81)).setCell ⟨g, 11, none⟩ (.slice (some ⟨w.heap.size, 0, none⟩) 1 1)) g 51 #[x0, x1, x2, x3, x4, x5, x6, x7, x8, x9, x10, .slice (some ⟨w.heap.size, 0, none⟩) 1 1, x12, x13] ∧
    CondsV ((w.alloc (.cells #[.int .i64 c.kind, .int .i64 c.a, .int .i64 c.b, .int .i64 c.n] 81)).setCell ⟨g, 11, none⟩ (.slice (some ⟨w.heap.size, 0, none⟩) 1 1)) (fun k => w.heap.size ≤ k) (some ⟨w.heap.size, 0, none⟩) [c] ∧
    Upd (· = g) w ((w.alloc (.cells #[.int .i64 c.kind, .int .i64 c.a, .int .i64 c.b, .int .i64 c.n] 81)).setCell ⟨g, 11, none⟩ (.slice (some ⟨w.heap.size, 0, none⟩) 1 1)) := by
  have hg : g < w.heap.size := b.lt
  have ua : Upd Non w (w.alloc (.cells #[.int .i64 c.kind, .int .i64 c.a, .int .i64 c.b, .int .i64 c.n] 81)) := Upd.refl.alloc _
  have ba := Blk.new w 81 #[.int .i64 c.kind, .int .i64 c.a, .int .i64 c.b, .int .i64 c.n]
  obtain ⟨W, HW⟩ := nm (w.alloc (.cells #[.int .i64 c.kind, .int .i64 c.a, .int .i64 c.b, .int .i64 c.n] 81))
  rw [HW.out] at ua ba ⊢
  have us : Upd (· = g) W (W.setCell ⟨g, 11, none⟩ (.slice (some ⟨w.heap.size, 0, none⟩) 1 1)) := updCell _ _ _ _
  have bs := ba.upd us (by omega)
  refine ⟨by simpa using (b.upd ua (fun f => f)).set_ 11 (.slice (some ⟨w.heap.size, 0, none⟩) 1 1), .inr ⟨w.heap.size, 0, rfl, Nat.le_refl _, fun i hi => ?_⟩, (ua.mono (fun _ _ f => f.elim)).trans us (fun _ _ h => h)⟩
  obtain rfl : i = 0 := by simpa using hi
  exact ⟨bs.cell 0, bs.cell 1, bs.cell 2, bs.cell 3⟩

/-! The rule in plain terms -/

/-- The sides of a rule: no variable stands alone on the left. -/
def sideF (op : Int) (p : Pt) : Pt := if 0 < p.v then .mk 0 op 0 0 [p] else p
def kCondsF (n : Int) (nv : Nat) : List Cd :=
  if n % 9 = 0 then [⟨1, 1, 0, 0⟩] else if n % 9 = 1 then [⟨2, 1, 0, wordF (n.tdiv 9) 3⟩] else if n % 9 = 2 then [⟨3, nv, 0, wordF (n.tdiv 9) 3⟩] else if n % 9 = 3 ∧ 1 < nv then [⟨4, 1, 2, 0⟩] else []
def kRuleF (name : ByteArray) (xs : List Int) : Rl :=
  let P := patF (3 : Nat) false 3 1 xs.tail
  let R := numF P.1 [] []
  if R.2.1.length = 0 then ⟨name, sideF 21 R.1, .mk 0 1 (wordF (xs.headD 0) 5) 0 [], [], 0, 0⟩
  else ⟨name, sideF 21 R.1, (patF R.2.1.length false 2 1 P.2).1, kCondsF (xs.headD 0) R.2.1.length, R.2.1.length, 0⟩

set_option maxRecDepth 100000 in
set_option maxHeartbeats 1600000 in
theorem kRule_c (w : World) (F : Nat → Prop) (A : Option Addr) (c : Nat) (xs : List Int) (name : ByteArray) (hx : Ints w F A xs) (hc : xs.length ≤ c) (hI : ∀ x ∈ xs, I64 x) (hn : xs.length ≤ 100000000000000) :
    Calls Try.prog 20 #[.slice A xs.length c, .string name] w fun e w' => ∃ a : RlA, e = .returned (rlv (kRuleF name (xs.take 40)) a) ∧ RlK w' (fun k => w.heap.size ≤ k) (kRuleF name (xs.take 40)) a ∧ Upd Non w w' := by
  have hx0 := hx.mono (G := (· < w.heap.size)) (fun k hk _ => hk)
  obtain ⟨W, HW⟩ := nm (w.alloc (.cells #[.string ⟨#[]⟩, .int .i64 0, .int .i64 0, .int .i64 0, .int .i64 0, .slice none 0 0, .int .i64 0, .int .i64 0, .int .i64 0, .int .i64 0, .slice none 0 0, .slice none 0 0, .int .i64 0, .int .i64 0] 51))
  have hU : Upd Non w W := by rw [← HW.out]; exact Upd.refl.alloc _
  have hb : Blk W w.heap.size 51 #[.string ⟨#[]⟩, .int .i64 0, .int .i64 0, .int .i64 0, .int .i64 0, .slice none 0 0, .int .i64 0, .int .i64 0, .int .i64 0, .int .i64 0, .slice none 0 0, .slice none 0 0, .int .i64 0, .int .i64 0] := by rw [← HW.out]; exact Blk.new _ _ _
  have hsW : W.heap.size = w.heap.size + 1 := by rw [← HW.out]; simp
  have e0 := HW.out
  have hxW := hx0.upd hU (fun _ _ _ f => f)
  obtain ⟨l, Hl⟩ := nm xs.length
  rw [Hl.out] at hc
  rw [Hl.out]
  go_enter Try.func20, Try.ntmps20
  go_upto_region 1 with fail
  go_cut [5] (fun s wx => ∃ p, s = .pointer (some ⟨p, 0, none⟩) ∧ w.heap.size < p ∧ Rd wx (fun k => w.heap.size < k ∧ k ≠ p) p (xs.take 40) ∧ Upd Non W wx)
  case first =>
    obtain ⟨W2, HW2⟩ := nm (W.alloc (.cells #[] 3))
    have hU2 : Upd Non W W2 := by rw [← HW2.out]; exact Upd.refl.alloc _
    have ho2 : Own W2 3 1 (some ⟨w.heap.size + 1, 0, none⟩) 0 0 (icells []) := by rw [← HW2.out]; exact own_empty' 3 1 hsW.symm
    have e2 := HW2.out
    have hx2 := hxW.upd hU2 (fun _ _ _ f => f)
    obtain ⟨m, hm⟩ : ∃ m : Nat, (xs.take 40).length = m := ⟨_, rfl⟩
    have hmx : Ints W2 (· < w.heap.size) A (xs.take 40) := hx2.take_ 40
    have hml : m ≤ 40 := by rw [← hm]; simp; omega
    have H : ∀ (A3 : Option Addr) (c3 : Nat) (w3 : World), Own w3 3 1 A3 (0 + m) c3 (icells [] ++ icells (xs.take 40)) → Upd (At (some ⟨w.heap.size + 1, 0, none⟩)) W2 w3 → (∀ k, At A3 k → At (some ⟨w.heap.size + 1, 0, none⟩) k ∨ k = W2.heap.size) →
        ∃ p, Value.pointer (some ⟨w3.heap.size, 0, none⟩) = .pointer (some ⟨p, 0, none⟩) ∧ w.heap.size < p ∧ Rd (w3.alloc (.cells #[.slice A3 m c3, .int .i64 0] 54)) (fun k => w.heap.size < k ∧ k ≠ p) p (xs.take 40) ∧ Upd Non W (w3.alloc (.cells #[.slice A3 m c3, .int .i64 0] 54)) := by
      intro A3 c3 w3 ho3 hu3 hat3
      have hs3 := hu3.size
      have hsW2 : W2.heap.size = w.heap.size + 1 + 1 := by rw [← HW2.out]; simp [hsW]
      obtain ⟨W4, HW4⟩ := nm (w3.alloc (.cells #[.slice A3 m c3, .int .i64 0] 54))
      have uA : Upd Non w3 W4 := by rw [← HW4.out]; exact Upd.refl.alloc _
      rw [HW4.out]
      refine ⟨w3.heap.size, rfl, by omega, ⟨A3, c3, .int .i64 0, ?_, ?_, ?_, fun x hx => hI x (List.mem_of_mem_take hx)⟩, ?_⟩
      · rw [← HW4.out, hm]; exact Blk.new _ _ _
      · have ho4 := ho3.upd uA (fun _ _ f => f)
        refine (Own.ints ho4).mono (fun k hk h => ?_)
        have hlt := ho3.lt h
        rcases hat3 k h with h | h
        · rw [At.some_] at h; omega
        · omega
      · have := ho3.le; omega
      · exact (hU2.trans hu3 (fun i hi h => by rw [At.some_] at h; omega)).then_non uA
    have hlm : xs.length ≤ 40 ∧ m = xs.length ∨ 40 < xs.length ∧ m = 40 := by rw [← hm]; simp; omega
    rw [Hl.out] at hlm
    rcases hlm with ⟨hl, rfl⟩ | ⟨hl, rfl⟩
    · go_wp2_with (at_builtin; refine wpList_app rfl rfl T_ints' rfl ho2 rfl hmx (by rw [List.length_map, hm, Nat.mul_one]) (icells_one _) (by simp only [maxLen]; omega) (by omega) ?_; intro A3 c3 w3 ho3 hu3 hat3)
      go_meet
      case rel => exact H A3 c3 w3 ho3 hu3 hat3
    · have t20 : ((l : Int) ≤ 40) = False := by simp; omega
      obtain ⟨b0, o0, rfl, _⟩ := hmx.at_ (k := 0) (by omega)
      go_wp2_with (at_builtin; refine wpList_app rfl rfl T_ints' rfl ho2 rfl hmx (by rw [List.length_map, hm, Nat.mul_one]) (icells_one _) (by simp only [maxLen]; omega) (by omega) ?_; intro A3 c3 w3 ho3 hu3 hat3)
      go_meet
      case rel => exact H A3 c3 w3 ho3 hu3 hat3
  case rest =>
    obtain ⟨w1, rfl⟩ : ∃ w1 : World, w1 = wc := ⟨_, rfl⟩
    obtain ⟨p, rfl, hpw, hR, hU1⟩ := hcut
    have hb1 := hb.upd hU1 (fun f => f)
    obtain ⟨ys, Hys⟩ := nm (xs.take 40)
    rw [Hys.out] at hR
    have hR1 := hR.mono (G := fun k => w.heap.size < k ∧ k ≠ p ∧ k < w1.heap.size) (fun k hk h => ⟨h.1, h.2, hk⟩)
    have hpl := hR.lt
    have hni := hR.i64
    have C1 := Lib.hid (rdNext_c (fun k h => h.2.1) hR1)
    have hUw1 := hU.then_non hU1
    clear hx hx0 hxW hI hR hb hU hU1 HW e0 hR1
    go_wp2_with fail
    refine C1.out.mono ?_
    rintro e w2 ⟨rfl, hR2, hu2⟩
    obtain ⟨n, Hn⟩ := nm (ys.headD 0)
    rw [Hn.out] at hni ⊢
    have C2 := Lib.hid (rdPattern_c 3 (by omega) (by omega) false 3 (by omega) w2 _ p ys.tail 1 (.inl rfl) (fun k h => h.2.1) hR2)
    have hb2 := hb1.upd hu2 (by omega)
    clear C1 hR2 hb1
    go_wp2_with fail
    refine C2.out.mono ?_
    rintro e w3 ⟨K1, k1, rfl, hp3, hR3, hu3⟩
    have hPs := patF_size (3 : Nat) false 3 1 ys.tail
    obtain ⟨P, HP⟩ := nm (patF (3 : Nat) false 3 1 ys.tail)
    rw [HP.out] at hp3 hR3 hPs ⊢
    simp only [kSize] at hPs
    have C3 := Lib.hid (Numbered_c P.1 w3 _ K1 k1 hp3 (by omega))
    have hb3 := hb2.upd hu3 (by omega)
    have hls := numF_len P.1 [] []
    simp only [List.length_nil, Nat.zero_add] at hls
    clear C2 hb2
    go_wp2_with fail
    refine C3.out.mono ?_
    rintro e w4 ⟨K2, k2, rfl, hp4, hu4⟩
    obtain ⟨R, HR⟩ := nm (numF P.1 [] [])
    rw [HR.out] at hp4 hls ⊢
    obtain ⟨q, Hq⟩ := nm R.1
    obtain ⟨nv, Hnv⟩ := nm R.2.1.length
    obtain ⟨ni, Hni⟩ := nm R.2.2.length
    rw [Hq.out] at hp4 ⊢
    rw [Hnv.out] at hls ⊢
    rw [Hni.out]
    have hnv : nv ≤ 40 := by omega
    have hb4 := hb3.upd hu4 (fun f => f)
    have hR4 := hR3.upd hu4 (fun _ _ _ f => f) (fun f => f)
    have s1 := hUw1.size
    have s2 := hu2.size
    have s3 := hu3.size
    have s4 := hu4.size
    have hU4 : Upd (· = p) w1 w4 := (hu2.trans hu3 (fun _ _ h => h)).then_non hu4
    clear C3 hls hPs hp3 hR3 hb3
    unfold pv
    go_upto_region 4 with fail
    obtain ⟨w5, Hw5⟩ := nm (w4.alloc (.cells #[.int .i64 q.v, .int .i64 q.op, .int .i64 q.imm, .int .i64 q.iv, .slice K2 q.kids.length k2] 24))
    have u5 : Upd Non w4 w5 := by rw [← Hw5.out]; exact Upd.refl.alloc _
    have b5 : Blk w5 w4.heap.size 24 #[.int .i64 q.v, .int .i64 q.op, .int .i64 q.imm, .int .i64 q.iv, .slice K2 q.kids.length k2] := by rw [← Hw5.out]; exact Blk.new _ _ _
    have s5 : w5.heap.size = w4.heap.size + 1 := by rw [← Hw5.out]; simp
    have hp5 : PtK w5 (fun k => w.heap.size < k ∧ k ≠ p ∧ k < w4.heap.size) q K2 k2 := PtK.upd u5 (fun _ _ _ f => f) _ _ _ (PtK.mono (fun k hk h => by omega) _ _ _ hp4)
    have hb5 := hb4.upd u5 (fun f => f)
    have hR5 := hR4.upd u5 (fun _ _ _ f => f) (fun f => f)
    have hU5 := hU4.then_non u5
    rw [Hw5.out]
    clear hp4 hb4 hR4 hU4 u5 Hw5
    have HR5 := Lib.hid hR5
    have HU5 := Lib.hid hU5
    have HB5 := Lib.hid hb5
    have HP5 := Lib.hid hp5
    have Hb5 := Lib.hid b5
    have c0 := b5.cell 0
    have c1 := b5.cell 1
    have c2 := b5.cell 2
    have c3 := b5.cell 3
    have c4 := b5.cell 4
    have f5 := b5.frozen
    clear hR5 hU5 hb5 hp5 b5
    obtain ⟨v, Hv⟩ := nm q.v
    rw [Hv.out] at c0 ⊢
    go_upto_if 31 with fail
    go_cut [] (fun wx => ∃ KL kl, Blk wx w4.heap.size 24 #[.int .i64 (sideF 21 q).v, .int .i64 (sideF 21 q).op, .int .i64 (sideF 21 q).imm, .int .i64 (sideF 21 q).iv, .slice KL (sideF 21 q).kids.length kl] ∧ PtK wx (fun k => w.heap.size < k ∧ k ≠ p ∧ k ≠ w4.heap.size) (sideF 21 q) KL kl ∧ Upd (· = w4.heap.size) w5 wx)
    case first =>
      by_cases hv : 0 < q.v
      · have e : sideF 21 q = .mk 0 21 0 0 [q] := if_pos hv
        have hv' : 0 < v := by rw [← Hv.out]; exact hv
        have tv : decide (0 < v) = true := decide_eq_true hv'
        go_wp2_with fail
        go_meet
        case rel =>
          rw [set5_eq, e]
          have b := Hb5.out
          rw [Hv.out] at b
          have us := set5_upd w5 w4.heap.size (.int .i64 0) (.int .i64 21) (.int .i64 0) (.int .i64 0) (.slice (some ⟨w4.heap.size + 1, 0, none⟩) 1 1)
          have bs := set5_blk b (.int .i64 0) (.int .i64 21) (.int .i64 0) (.int .i64 0) (.slice (some ⟨w4.heap.size + 1, 0, none⟩) 1 1)
          have hs := us.size
          obtain ⟨wA, HwA⟩ := nm (set5 w5 w4.heap.size (.int .i64 0) (.int .i64 21) (.int .i64 0) (.int .i64 0) (.slice (some ⟨w4.heap.size + 1, 0, none⟩) 1 1))
          have hsA : wA.heap.size = w4.heap.size + 1 := by rw [← HwA.out, ← s5]; simp [set5]
          rw [HwA.out] at us bs ⊢
          have ua : Upd Non wA (wA.alloc (.cells #[.int .i64 v, .int .i64 q.op, .int .i64 q.imm, .int .i64 q.iv, .slice K2 q.kids.length k2] 24)) := Upd.refl.alloc _
          have ba := Blk.new wA 24 #[.int .i64 v, .int .i64 q.op, .int .i64 q.imm, .int .i64 q.iv, .slice K2 q.kids.length k2]
          rw [hsA, ← Hv.out] at ba
          rw [← Hv.out] at ua ⊢
          refine ⟨some ⟨w4.heap.size + 1, 0, none⟩, 1, bs.upd ua (fun f => f), ?_, us.then_non ua⟩
          exact PtK.one _ _ _ _ ba (PtK.upd ua (fun _ _ _ f => f) _ _ _ (PtK.upd us (fun k hk h => by omega) _ _ _ (PtK.mono (fun k _ h => by omega) _ _ _ HP5.out))) (by omega) (by omega)
      · have e : sideF 21 q = q := if_neg hv
        have hv' : ¬ 0 < v := by rw [← Hv.out]; exact hv
        have tv : decide (0 < v) = false := decide_eq_false hv'
        go_wp2_with fail
        go_meet
        case rel => rw [e]; exact ⟨K2, k2, Hb5.out, PtK.mono (fun k _ h => by omega) _ _ _ HP5.out, Upd.refl⟩
    case rest =>
      obtain ⟨w6, rfl⟩ : ∃ w6 : World, w6 = wc := ⟨_, rfl⟩
      obtain ⟨KL, kl, b6, hp6, u6⟩ := hcut
      obtain ⟨L, HL⟩ := nm (sideF 21 q)
      rw [HL.out] at b6 hp6
      have s6 := u6.size
      have hb6 := HB5.out.upd u6 (by omega)
      have hR6 := HR5.out.upd u6 (fun k hk h => by omega) (by omega)
      have hU6 : Upd (fun k => k = p ∨ k = w4.heap.size) w1 w6 := (HU5.out.mono (fun _ _ h => .inl h)).trans u6 (fun _ _ h => .inr h)
      clear HB5 HR5 HU5 HP5 Hb5 c0 c1 c2 c3 c4 f5
      have c0 := b6.cell 0
      have c1 := b6.cell 1
      have c2 := b6.cell 2
      have c3 := b6.cell 3
      have c4 := b6.cell 4
      have f6 := b6.frozen
      go_upto_region 7 with fail
      have HB6 := Lib.hid b6
      clear c0 c1 c2 c3 c4 f6 b6
      obtain ⟨w7, Hw7⟩ := nm (w6.alloc (.cells #[.string name, .int .i64 L.v, .int .i64 L.op, .int .i64 L.imm, .int .i64 L.iv, .slice KL L.kids.length kl, .int .i64 0, .int .i64 0, .int .i64 0, .int .i64 0, .slice none 0 0, .slice none 0 0, .int .i64 nv, .int .i64 0] 51))
      have u7 : Upd Non w6 w7 := by rw [← Hw7.out]; exact Upd.refl.alloc _
      have b7 : Blk w7 w6.heap.size 51 #[.string name, .int .i64 L.v, .int .i64 L.op, .int .i64 L.imm, .int .i64 L.iv, .slice KL L.kids.length kl, .int .i64 0, .int .i64 0, .int .i64 0, .int .i64 0, .slice none 0 0, .slice none 0 0, .int .i64 nv, .int .i64 0] := by rw [← Hw7.out]; exact Blk.new _ _ _
      have s7 : w7.heap.size = w6.heap.size + 1 := by rw [← Hw7.out]; simp
      rw [Hw7.out]
      have hb7 := hb6.upd u7 (fun f => f)
      have hR7 := hR6.upd u7 (fun _ _ _ f => f) (fun f => f)
      have hU7 := hU6.then_non u7
      have hp7 := PtK.upd u7 (fun _ _ _ f => f) _ _ _ (PtK.mono (G := fun k => w.heap.size < k ∧ k ≠ p ∧ k ≠ w4.heap.size ∧ k < w6.heap.size) (fun k hk h => by omega) _ _ _ hp6)
      clear hb6 hR6 hU6 hp6 u7 Hw7 HB6
      have HRe : Hid (nv = 0 → kRuleF name ys = ⟨name, L, .mk 0 1 (wordF n 5) 0 [], [], 0, 0⟩) := fun h => by
        unfold kRuleF
        simp only [HP.out, HR.out, Hnv.out, Hq.out, HL.out, Hn.out, h, if_true]
      have HRn : Hid (nv ≠ 0 → kRuleF name ys = ⟨name, L, (patF nv false 2 1 P.2).1, kCondsF n nv, nv, 0⟩) := fun h => by
        unfold kRuleF
        simp only [HP.out, HR.out, Hnv.out, Hq.out, HL.out, Hn.out, if_neg h]
      by_cases h0 : nv = 0
      · subst h0
        have CW := Lib.hid (word_c w7 n 5 hni)
        have HRr := Lib.hid (HRe.out rfl)
        clear HRe HRn
        go_wp2_with fail
        refine CW.out.mono ?_
        rintro e w8 ⟨rfl, hu8⟩
        obtain ⟨wd, Hwd⟩ := nm (wordF n 5)
        rw [Hwd.out] at HRr ⊢
        have hb8 := hb7.upd hu8 (fun f => f)
        have b8 := b7.upd hu8 (fun f => f)
        clear b7 hb7 CW
        have r6 := b8.cell 6
        have r7 := b8.cell 7
        have r8 := b8.cell 8
        have r9 := b8.cell 9
        have r10 := b8.cell 10
        have rf := b8.frozen
        go_upto_region 9 with fail
        rw [setRt_eq]
        have u9 := setRt_upd w8 w6.heap.size (.int .i64 0) (.int .i64 1) (.int .i64 wd) (.int .i64 0) (.slice none 0 0)
        have bz := setRt_blk b8 (.int .i64 0) (.int .i64 1) (.int .i64 wd) (.int .i64 0) (.slice none 0 0)
        have hz := hb8.upd u9 (by omega)
        obtain ⟨wz, Hwz⟩ := nm (setRt w8 w6.heap.size (.int .i64 0) (.int .i64 1) (.int .i64 wd) (.int .i64 0) (.slice none 0 0))
        rw [Hwz.out] at u9 bz hz ⊢
        clear r6 r7 r8 r9 r10 rf b8 hb8
        have hpz := PtK.upd u9 (fun k hk h => by omega) _ _ _ (PtK.upd hu8 (fun _ _ _ f => f) _ _ _ hp7)
        have hUz : Upd (fun k => k = p ∨ k = w4.heap.size ∨ k = w6.heap.size) w1 wz := ((hU7.mono (fun _ _ h => by omega)).then_non hu8).trans u9 (fun _ _ h => by omega)
        have r0 := bz.cell 0
        have r1 := bz.cell 1
        have r2 := bz.cell 2
        have r3 := bz.cell 3
        have r4 := bz.cell 4
        have r5 := bz.cell 5
        have r6 := bz.cell 6
        have r7 := bz.cell 7
        have r8 := bz.cell 8
        have r9 := bz.cell 9
        have r10 := bz.cell 10
        have r11 := bz.cell 11
        have r12 := bz.cell 12
        have r13 := bz.cell 13
        have z0 := hz.cell 0
        have z1 := hz.cell 1
        have z2 := hz.cell 2
        have z3 := hz.cell 3
        have z4 := hz.cell 4
        have z5 := hz.cell 5
        have z6 := hz.cell 6
        have z7 := hz.cell 7
        have z8 := hz.cell 8
        have z9 := hz.cell 9
        have z10 := hz.cell 10
        have z11 := hz.cell 11
        have z12 := hz.cell 12
        have z13 := hz.cell 13
        have rf := bz.frozen
        have zf := hz.frozen
        have HZ := Lib.hid hz
        clear hz bz
        go_wp2_with fail
        rw [set14_eq]
        refine bodyPost_ret (results_cell_row rfl _ _ w.heap.size 51 _ (0, 0) _ rfl (set14_blk HZ.out _ _ _ _ _ _ _ _ _ _ _ _ _ _) Try.underlying51 rfl (by kernel_rfl)) rfl ?_
        rw [Hys.out, HRr.out]
        refine ⟨⟨KL, kl, none, 0, none, 0⟩, rfl, ⟨PtK.mono (fun k hk h => by omega) _ _ _ (PtK.upd (set14_upd _ _ _ _ _ _ _ _ _ _ _ _ _ _ _ _) (fun k hk h => by omega) _ _ _ hpz), PtK.leaf, CondsV.nil, by simp⟩, ?_⟩
        exact ((hUw1.trans hUz (fun k hk h => by omega)).trans (set14_upd _ _ _ _ _ _ _ _ _ _ _ _ _ _ _ _) (fun k hk h => by omega))
      · have HRr := Lib.hid (HRn.out h0)
        have C4 := Lib.hid (rdPattern_c nv (by omega) (by omega) false 2 (by omega) w7 _ p P.2 1 (.inl rfl) (fun k h => h.2.1) hR7)
        clear HRe HRn hR7
        have th : ((nv : Int) = 0) = False := by simp; omega
        have th2 : decide ((nv : Int) = 0) = false := by simp; omega
        go_wp2_with fail
        refine C4.out.mono ?_
        rintro e w8 ⟨KR, kr, rfl, hp8, -, hu8⟩
        obtain ⟨Q, HQ⟩ := nm (patF nv false 2 1 P.2).1
        rw [HQ.out] at hp8 HRr ⊢
        have hb8 := hb7.upd hu8 (by omega)
        have b8 := b7.upd hu8 (by omega)
        have s8 := hu8.size
        have hpz := PtK.upd hu8 (fun k hk h => by omega) _ _ _ hp7
        have hU8 : Upd (fun k => k = p ∨ k = w4.heap.size) w1 w8 := hU7.trans hu8 (fun k hk h => .inl h)
        clear b7 hb7 C4 hp7 hU7
        have r6 := b8.cell 6
        have r7 := b8.cell 7
        have r8 := b8.cell 8
        have r9 := b8.cell 9
        have r10 := b8.cell 10
        have rf := b8.frozen
        unfold pv
        go_upto_region 11 with fail
        rw [setRt_eq]
        have u9 := setRt_upd w8 w6.heap.size (.int .i64 Q.v) (.int .i64 Q.op) (.int .i64 Q.imm) (.int .i64 Q.iv) (.slice KR Q.kids.length kr)
        have b9 := setRt_blk b8 (.int .i64 Q.v) (.int .i64 Q.op) (.int .i64 Q.imm) (.int .i64 Q.iv) (.slice KR Q.kids.length kr)
        have hb9 := hb8.upd u9 (by omega)
        obtain ⟨w9, Hw9⟩ := nm (setRt w8 w6.heap.size (.int .i64 Q.v) (.int .i64 Q.op) (.int .i64 Q.imm) (.int .i64 Q.iv) (.slice KR Q.kids.length kr))
        rw [Hw9.out] at u9 b9 hb9 ⊢
        have s9 := u9.size
        have hpL := PtK.upd u9 (fun k hk h => by omega) _ _ _ hpz
        have hpR := PtK.upd u9 (fun k hk h => by omega) _ _ _ hp8
        have hU9 : Upd (fun k => k = p ∨ k = w4.heap.size ∨ k = w6.heap.size) w1 w9 := (hU8.mono (fun _ _ h => by omega)).trans u9 (fun _ _ h => by omega)
        clear r6 r7 r8 r9 r10 rf b8 hb8 hpz hp8 hU8 u9 Hw9
        have C5 := Lib.hid (pick_c n 9 w9 (by omega) (by omega))
        go_wp2_with fail
        refine C5.out.mono ?_
        rintro e wx ⟨rfl, rfl⟩
        obtain ⟨k, Hk⟩ := nm (n % 9)
        rw [Hk.out]
        have hk9 : 0 ≤ k ∧ k < 9 := by rw [← Hk.out]; omega
        have HpL := Lib.hid hpL
        have HpR := Lib.hid hpR
        have HU9 := Lib.hid hU9
        have Hb9 := Lib.hid hb9
        have HB9 := Lib.hid b9
        have r11 : ∀ o, (w9.alloc o).cell? ⟨w6.heap.size, 11, none⟩ = some (.slice none 0 0) := fun o => (b9.alloc o).cell 11
        have rf : ∀ o, (w9.alloc o).frozen? ⟨w6.heap.size, 11, none⟩ = false := fun o => (b9.alloc o).frozen 11
        clear hpL hpR hU9 hb9 b9 C5
        by_cases k0 : k = 0
        · subst k0
          have hc : kCondsF n nv = [⟨1, 1, 0, 0⟩] := by unfold kCondsF; rw [if_pos Hk.out]
          go_upto_region 21 with fail
          obtain ⟨bz, hcz, uz⟩ := cond_one HB9.out ⟨1, 1, 0, 0⟩
          simp only at bz hcz uz
          have hz := Hb9.out.upd uz (by omega)
          obtain ⟨wz, Hwz⟩ := nm ((w9.alloc (.cells #[.int .i64 1, .int .i64 1, .int .i64 0, .int .i64 0] 81)).setCell ⟨w6.heap.size, 11, none⟩ (.slice (some ⟨w9.heap.size, 0, none⟩) 1 1))
          rw [Hwz.out] at bz hcz uz hz ⊢
          obtain ⟨CA, HCA⟩ := nm (some (⟨w9.heap.size, 0, none⟩ : Addr))
          rw [HCA.out] at bz hcz
          clear r11 rf
          have r0 := bz.cell 0
          have r1 := bz.cell 1
          have r2 := bz.cell 2
          have r3 := bz.cell 3
          have r4 := bz.cell 4
          have r5 := bz.cell 5
          have r6 := bz.cell 6
          have r7 := bz.cell 7
          have r8 := bz.cell 8
          have r9 := bz.cell 9
          have r10 := bz.cell 10
          have r11 := bz.cell 11
          have r12 := bz.cell 12
          have r13 := bz.cell 13
          have z0 := hz.cell 0
          have z1 := hz.cell 1
          have z2 := hz.cell 2
          have z3 := hz.cell 3
          have z4 := hz.cell 4
          have z5 := hz.cell 5
          have z6 := hz.cell 6
          have z7 := hz.cell 7
          have z8 := hz.cell 8
          have z9 := hz.cell 9
          have z10 := hz.cell 10
          have z11 := hz.cell 11
          have z12 := hz.cell 12
          have z13 := hz.cell 13
          have rf := bz.frozen
          have zf := hz.frozen
          have HZ := Lib.hid hz
          clear hz bz
          go_wp2_with fail
          rw [set14_eq]
          refine bodyPost_ret (results_cell_row rfl _ _ w.heap.size 51 _ (0, 0) _ rfl (set14_blk HZ.out _ _ _ _ _ _ _ _ _ _ _ _ _ _) Try.underlying51 rfl (by kernel_rfl)) rfl ?_
          rw [Hys.out, HRr.out, hc]
          have uE := set14_upd wz w.heap.size (.string name) (.int .i64 L.v) (.int .i64 L.op) (.int .i64 L.imm) (.int .i64 L.iv) (.slice KL L.kids.length kl) (.int .i64 Q.v) (.int .i64 Q.op) (.int .i64 Q.imm) (.int .i64 Q.iv) (.slice KR Q.kids.length kr) (.slice CA 1 1) (.int .i64 nv) (.int .i64 0)
          refine ⟨⟨KL, kl, KR, kr, CA, 1⟩, rfl, ⟨PtK.mono (fun k hk h => by omega) _ _ _ (PtK.upd uE (fun k hk h => by omega) _ _ _ (PtK.upd uz (fun k hk h => by omega) _ _ _ HpL.out)), PtK.mono (fun k hk h => by omega) _ _ _ (PtK.upd uE (fun k hk h => by omega) _ _ _ (PtK.upd uz (fun k hk h => by omega) _ _ _ HpR.out)), (hcz.upd uE (fun k hk h => by omega)).mono (fun k hk h => by omega), by simp⟩, ?_⟩
          exact (hUw1.trans (HU9.out.trans uz (fun _ _ h => by omega)) (fun k hk h => by omega)).trans uE (fun k hk h => by omega)
        · by_cases k1 : k = 1
          · subst k1
            obtain ⟨d, Hd⟩ := nm (n.tdiv 9)
            have hdi : I64 d := by rw [← Hd.out]; exact tdiv_i64 hni (by omega)
            have hwr : wrap64 (n.tdiv 9) = d := by rw [Hd.out]; exact wrap64_of hdi
            have CW := Lib.hid (word_c w9 d 3 hdi)
            obtain ⟨wd, Hwd⟩ := nm (wordF d 3)
            rw [Hwd.out] at CW
            go_wp2_with fail
            refine CW.out.mono ?_
            rintro e wy ⟨rfl, huy⟩
            have HpL := Lib.hid (PtK.upd huy (fun _ _ _ f => f) _ _ _ HpL.out)
            have HpR := Lib.hid (PtK.upd huy (fun _ _ _ f => f) _ _ _ HpR.out)
            have HU9 := Lib.hid (HU9.out.then_non huy)
            have Hb9 := Lib.hid (Hb9.out.upd huy (fun f => f))
            have HB9 := Lib.hid (HB9.out.upd huy (fun f => f))
            have s9 : w8.heap.size ≤ wy.heap.size := by have := huy.size; omega
            have r11 : ∀ o, (wy.alloc o).cell? ⟨w6.heap.size, 11, none⟩ = some (.slice none 0 0) := fun o => (HB9.out.alloc o).cell 11
            have rf : ∀ o, (wy.alloc o).frozen? ⟨w6.heap.size, 11, none⟩ = false := fun o => (HB9.out.alloc o).frozen 11
            have hc : kCondsF n nv = [⟨2, 1, 0, wd⟩] := by unfold kCondsF; rw [if_neg (by rw [Hk.out]; omega), if_pos Hk.out, Hd.out, Hwd.out]
            go_upto_region 21 with fail
            obtain ⟨bz, hcz, uz⟩ := cond_one HB9.out ⟨2, 1, 0, wd⟩
            simp only at bz hcz uz
            have hz := Hb9.out.upd uz (by omega)
            obtain ⟨wz, Hwz⟩ := nm ((wy.alloc (.cells #[.int .i64 2, .int .i64 1, .int .i64 0, .int .i64 wd] 81)).setCell ⟨w6.heap.size, 11, none⟩ (.slice (some ⟨wy.heap.size, 0, none⟩) 1 1))
            rw [Hwz.out] at bz hcz uz hz ⊢
            obtain ⟨CA, HCA⟩ := nm (some (⟨wy.heap.size, 0, none⟩ : Addr))
            rw [HCA.out] at bz hcz
            clear r11 rf
            have r0 := bz.cell 0
            have r1 := bz.cell 1
            have r2 := bz.cell 2
            have r3 := bz.cell 3
            have r4 := bz.cell 4
            have r5 := bz.cell 5
            have r6 := bz.cell 6
            have r7 := bz.cell 7
            have r8 := bz.cell 8
            have r9 := bz.cell 9
            have r10 := bz.cell 10
            have r11 := bz.cell 11
            have r12 := bz.cell 12
            have r13 := bz.cell 13
            have z0 := hz.cell 0
            have z1 := hz.cell 1
            have z2 := hz.cell 2
            have z3 := hz.cell 3
            have z4 := hz.cell 4
            have z5 := hz.cell 5
            have z6 := hz.cell 6
            have z7 := hz.cell 7
            have z8 := hz.cell 8
            have z9 := hz.cell 9
            have z10 := hz.cell 10
            have z11 := hz.cell 11
            have z12 := hz.cell 12
            have z13 := hz.cell 13
            have rf := bz.frozen
            have zf := hz.frozen
            have HZ := Lib.hid hz
            clear hz bz
            go_wp2_with fail
            rw [set14_eq]
            refine bodyPost_ret (results_cell_row rfl _ _ w.heap.size 51 _ (0, 0) _ rfl (set14_blk HZ.out _ _ _ _ _ _ _ _ _ _ _ _ _ _) Try.underlying51 rfl (by kernel_rfl)) rfl ?_
            rw [Hys.out, HRr.out, hc]
            have uE := set14_upd wz w.heap.size (.string name) (.int .i64 L.v) (.int .i64 L.op) (.int .i64 L.imm) (.int .i64 L.iv) (.slice KL L.kids.length kl) (.int .i64 Q.v) (.int .i64 Q.op) (.int .i64 Q.imm) (.int .i64 Q.iv) (.slice KR Q.kids.length kr) (.slice CA 1 1) (.int .i64 nv) (.int .i64 0)
            refine ⟨⟨KL, kl, KR, kr, CA, 1⟩, rfl, ⟨PtK.mono (fun k hk h => by omega) _ _ _ (PtK.upd uE (fun k hk h => by omega) _ _ _ (PtK.upd uz (fun k hk h => by omega) _ _ _ HpL.out)), PtK.mono (fun k hk h => by omega) _ _ _ (PtK.upd uE (fun k hk h => by omega) _ _ _ (PtK.upd uz (fun k hk h => by omega) _ _ _ HpR.out)), (hcz.upd uE (fun k hk h => by omega)).mono (fun k hk h => by omega), by simp⟩, ?_⟩
            exact (hUw1.trans (HU9.out.trans uz (fun _ _ h => by omega)) (fun k hk h => by omega)).trans uE (fun k hk h => by omega)
          · by_cases k2 : k = 2
            · subst k2
              obtain ⟨d, Hd⟩ := nm (n.tdiv 9)
              have hdi : I64 d := by rw [← Hd.out]; exact tdiv_i64 hni (by omega)
              have hwr : wrap64 (n.tdiv 9) = d := by rw [Hd.out]; exact wrap64_of hdi
              have CW := Lib.hid (word_c w9 d 3 hdi)
              obtain ⟨wd, Hwd⟩ := nm (wordF d 3)
              rw [Hwd.out] at CW
              go_wp2_with fail
              refine CW.out.mono ?_
              rintro e wy ⟨rfl, huy⟩
              have HpL := Lib.hid (PtK.upd huy (fun _ _ _ f => f) _ _ _ HpL.out)
              have HpR := Lib.hid (PtK.upd huy (fun _ _ _ f => f) _ _ _ HpR.out)
              have HU9 := Lib.hid (HU9.out.then_non huy)
              have Hb9 := Lib.hid (Hb9.out.upd huy (fun f => f))
              have HB9 := Lib.hid (HB9.out.upd huy (fun f => f))
              have s9 : w8.heap.size ≤ wy.heap.size := by have := huy.size; omega
              have r11 : ∀ o, (wy.alloc o).cell? ⟨w6.heap.size, 11, none⟩ = some (.slice none 0 0) := fun o => (HB9.out.alloc o).cell 11
              have rf : ∀ o, (wy.alloc o).frozen? ⟨w6.heap.size, 11, none⟩ = false := fun o => (HB9.out.alloc o).frozen 11
              have hc : kCondsF n nv = [⟨3, nv, 0, wd⟩] := by unfold kCondsF; rw [if_neg (by rw [Hk.out]; omega), if_neg (by rw [Hk.out]; omega), if_pos Hk.out, Hd.out, Hwd.out]
              go_upto_region 21 with fail
              obtain ⟨bz, hcz, uz⟩ := cond_one HB9.out ⟨3, nv, 0, wd⟩
              simp only at bz hcz uz
              have hz := Hb9.out.upd uz (by omega)
              obtain ⟨wz, Hwz⟩ := nm ((wy.alloc (.cells #[.int .i64 3, .int .i64 nv, .int .i64 0, .int .i64 wd] 81)).setCell ⟨w6.heap.size, 11, none⟩ (.slice (some ⟨wy.heap.size, 0, none⟩) 1 1))
              rw [Hwz.out] at bz hcz uz hz ⊢
              obtain ⟨CA, HCA⟩ := nm (some (⟨wy.heap.size, 0, none⟩ : Addr))
              rw [HCA.out] at bz hcz
              clear r11 rf
              have r0 := bz.cell 0
              have r1 := bz.cell 1
              have r2 := bz.cell 2
              have r3 := bz.cell 3
              have r4 := bz.cell 4
              have r5 := bz.cell 5
              have r6 := bz.cell 6
              have r7 := bz.cell 7
              have r8 := bz.cell 8
              have r9 := bz.cell 9
              have r10 := bz.cell 10
              have r11 := bz.cell 11
              have r12 := bz.cell 12
              have r13 := bz.cell 13
              have z0 := hz.cell 0
              have z1 := hz.cell 1
              have z2 := hz.cell 2
              have z3 := hz.cell 3
              have z4 := hz.cell 4
              have z5 := hz.cell 5
              have z6 := hz.cell 6
              have z7 := hz.cell 7
              have z8 := hz.cell 8
              have z9 := hz.cell 9
              have z10 := hz.cell 10
              have z11 := hz.cell 11
              have z12 := hz.cell 12
              have z13 := hz.cell 13
              have rf := bz.frozen
              have zf := hz.frozen
              have HZ := Lib.hid hz
              clear hz bz
              go_wp2_with fail
              rw [set14_eq]
              refine bodyPost_ret (results_cell_row rfl _ _ w.heap.size 51 _ (0, 0) _ rfl (set14_blk HZ.out _ _ _ _ _ _ _ _ _ _ _ _ _ _) Try.underlying51 rfl (by kernel_rfl)) rfl ?_
              rw [Hys.out, HRr.out, hc]
              have uE := set14_upd wz w.heap.size (.string name) (.int .i64 L.v) (.int .i64 L.op) (.int .i64 L.imm) (.int .i64 L.iv) (.slice KL L.kids.length kl) (.int .i64 Q.v) (.int .i64 Q.op) (.int .i64 Q.imm) (.int .i64 Q.iv) (.slice KR Q.kids.length kr) (.slice CA 1 1) (.int .i64 nv) (.int .i64 0)
              refine ⟨⟨KL, kl, KR, kr, CA, 1⟩, rfl, ⟨PtK.mono (fun k hk h => by omega) _ _ _ (PtK.upd uE (fun k hk h => by omega) _ _ _ (PtK.upd uz (fun k hk h => by omega) _ _ _ HpL.out)), PtK.mono (fun k hk h => by omega) _ _ _ (PtK.upd uE (fun k hk h => by omega) _ _ _ (PtK.upd uz (fun k hk h => by omega) _ _ _ HpR.out)), (hcz.upd uE (fun k hk h => by omega)).mono (fun k hk h => by omega), by simp⟩, ?_⟩
              exact (hUw1.trans (HU9.out.trans uz (fun _ _ h => by omega)) (fun k hk h => by omega)).trans uE (fun k hk h => by omega)
            · by_cases k3 : k = 3
              · subst k3
                by_cases n1 : 1 < nv
                · have tn : decide ((1 : Int) < (nv : Int)) = true := by simp; omega
                  have hc : kCondsF n nv = [⟨4, 1, 2, 0⟩] := by unfold kCondsF; rw [if_neg (by rw [Hk.out]; omega), if_neg (by rw [Hk.out]; omega), if_neg (by rw [Hk.out]; omega), if_pos ⟨Hk.out, n1⟩]
                  go_upto_region 21 with fail
                  obtain ⟨bz, hcz, uz⟩ := cond_one HB9.out ⟨4, 1, 2, 0⟩
                  simp only at bz hcz uz
                  have hz := Hb9.out.upd uz (by omega)
                  obtain ⟨wz, Hwz⟩ := nm ((w9.alloc (.cells #[.int .i64 4, .int .i64 1, .int .i64 2, .int .i64 0] 81)).setCell ⟨w6.heap.size, 11, none⟩ (.slice (some ⟨w9.heap.size, 0, none⟩) 1 1))
                  rw [Hwz.out] at bz hcz uz hz ⊢
                  obtain ⟨CA, HCA⟩ := nm (some (⟨w9.heap.size, 0, none⟩ : Addr))
                  rw [HCA.out] at bz hcz
                  clear r11 rf
                  have r0 := bz.cell 0
                  have r1 := bz.cell 1
                  have r2 := bz.cell 2
                  have r3 := bz.cell 3
                  have r4 := bz.cell 4
                  have r5 := bz.cell 5
                  have r6 := bz.cell 6
                  have r7 := bz.cell 7
                  have r8 := bz.cell 8
                  have r9 := bz.cell 9
                  have r10 := bz.cell 10
                  have r11 := bz.cell 11
                  have r12 := bz.cell 12
                  have r13 := bz.cell 13
                  have z0 := hz.cell 0
                  have z1 := hz.cell 1
                  have z2 := hz.cell 2
                  have z3 := hz.cell 3
                  have z4 := hz.cell 4
                  have z5 := hz.cell 5
                  have z6 := hz.cell 6
                  have z7 := hz.cell 7
                  have z8 := hz.cell 8
                  have z9 := hz.cell 9
                  have z10 := hz.cell 10
                  have z11 := hz.cell 11
                  have z12 := hz.cell 12
                  have z13 := hz.cell 13
                  have rf := bz.frozen
                  have zf := hz.frozen
                  have HZ := Lib.hid hz
                  clear hz bz
                  go_wp2_with fail
                  rw [set14_eq]
                  refine bodyPost_ret (results_cell_row rfl _ _ w.heap.size 51 _ (0, 0) _ rfl (set14_blk HZ.out _ _ _ _ _ _ _ _ _ _ _ _ _ _) Try.underlying51 rfl (by kernel_rfl)) rfl ?_
                  rw [Hys.out, HRr.out, hc]
                  have uE := set14_upd wz w.heap.size (.string name) (.int .i64 L.v) (.int .i64 L.op) (.int .i64 L.imm) (.int .i64 L.iv) (.slice KL L.kids.length kl) (.int .i64 Q.v) (.int .i64 Q.op) (.int .i64 Q.imm) (.int .i64 Q.iv) (.slice KR Q.kids.length kr) (.slice CA 1 1) (.int .i64 nv) (.int .i64 0)
                  refine ⟨⟨KL, kl, KR, kr, CA, 1⟩, rfl, ⟨PtK.mono (fun k hk h => by omega) _ _ _ (PtK.upd uE (fun k hk h => by omega) _ _ _ (PtK.upd uz (fun k hk h => by omega) _ _ _ HpL.out)), PtK.mono (fun k hk h => by omega) _ _ _ (PtK.upd uE (fun k hk h => by omega) _ _ _ (PtK.upd uz (fun k hk h => by omega) _ _ _ HpR.out)), (hcz.upd uE (fun k hk h => by omega)).mono (fun k hk h => by omega), by simp⟩, ?_⟩
                  exact (hUw1.trans (HU9.out.trans uz (fun _ _ h => by omega)) (fun k hk h => by omega)).trans uE (fun k hk h => by omega)
                · have tn : decide ((1 : Int) < (nv : Int)) = false := by simp; omega
                  have hc : kCondsF n nv = [] := by unfold kCondsF; rw [if_neg (by rw [Hk.out]; omega), if_neg (by rw [Hk.out]; omega), if_neg (by rw [Hk.out]; omega), if_neg (fun h => n1 h.2)]
                  have uz : Upd (· = w6.heap.size) w9 w9 := Upd.refl
                  have bz := HB9.out
                  have hz := Hb9.out
                  have hcz : CondsV w9 (fun k => w9.heap.size ≤ k) none [] := CondsV.nil
                  obtain ⟨wz, Hwz⟩ : ∃ wz : World, Hid (w9 = wz) := ⟨_, rfl⟩
                  go_upto_region 21 with fail
                  rw [Hwz.out] at bz hz ⊢
                  have uz : Upd (· = w6.heap.size) w9 wz := by rw [← Hwz.out]; exact Upd.refl
                  have hcz : CondsV wz (fun k => w9.heap.size ≤ k) none [] := CondsV.nil
                  clear r11 rf
                  have r0 := bz.cell 0
                  have r1 := bz.cell 1
                  have r2 := bz.cell 2
                  have r3 := bz.cell 3
                  have r4 := bz.cell 4
                  have r5 := bz.cell 5
                  have r6 := bz.cell 6
                  have r7 := bz.cell 7
                  have r8 := bz.cell 8
                  have r9 := bz.cell 9
                  have r10 := bz.cell 10
                  have r11 := bz.cell 11
                  have r12 := bz.cell 12
                  have r13 := bz.cell 13
                  have z0 := hz.cell 0
                  have z1 := hz.cell 1
                  have z2 := hz.cell 2
                  have z3 := hz.cell 3
                  have z4 := hz.cell 4
                  have z5 := hz.cell 5
                  have z6 := hz.cell 6
                  have z7 := hz.cell 7
                  have z8 := hz.cell 8
                  have z9 := hz.cell 9
                  have z10 := hz.cell 10
                  have z11 := hz.cell 11
                  have z12 := hz.cell 12
                  have z13 := hz.cell 13
                  have rf := bz.frozen
                  have zf := hz.frozen
                  have HZ := Lib.hid hz
                  clear hz bz
                  go_wp2_with fail
                  rw [set14_eq]
                  refine bodyPost_ret (results_cell_row rfl _ _ w.heap.size 51 _ (0, 0) _ rfl (set14_blk HZ.out _ _ _ _ _ _ _ _ _ _ _ _ _ _) Try.underlying51 rfl (by kernel_rfl)) rfl ?_
                  rw [Hys.out, HRr.out, hc]
                  have uE := set14_upd wz w.heap.size (.string name) (.int .i64 L.v) (.int .i64 L.op) (.int .i64 L.imm) (.int .i64 L.iv) (.slice KL L.kids.length kl) (.int .i64 Q.v) (.int .i64 Q.op) (.int .i64 Q.imm) (.int .i64 Q.iv) (.slice KR Q.kids.length kr) (.slice none 0 0) (.int .i64 nv) (.int .i64 0)
                  refine ⟨⟨KL, kl, KR, kr, none, 0⟩, rfl, ⟨PtK.mono (fun k hk h => by omega) _ _ _ (PtK.upd uE (fun k hk h => by omega) _ _ _ (PtK.upd uz (fun k hk h => by omega) _ _ _ HpL.out)), PtK.mono (fun k hk h => by omega) _ _ _ (PtK.upd uE (fun k hk h => by omega) _ _ _ (PtK.upd uz (fun k hk h => by omega) _ _ _ HpR.out)), (hcz.upd uE (fun k hk h => by omega)).mono (fun k hk h => by omega), by simp⟩, ?_⟩
                  exact (hUw1.trans (HU9.out.trans uz (fun _ _ h => by omega)) (fun k hk h => by omega)).trans uE (fun k hk h => by omega)
              · have hc : kCondsF n nv = [] := by unfold kCondsF; rw [Hk.out, if_neg k0, if_neg k1, if_neg k2, if_neg (fun h => k3 h.1)]
                have uz : Upd (· = w6.heap.size) w9 w9 := Upd.refl
                have bz := HB9.out
                have hz := Hb9.out
                have hcz : CondsV w9 (fun k => w9.heap.size ≤ k) none [] := CondsV.nil
                obtain ⟨wz, Hwz⟩ : ∃ wz : World, Hid (w9 = wz) := ⟨_, rfl⟩
                go_upto_region 21 with fail
                rw [Hwz.out] at bz hz ⊢
                have uz : Upd (· = w6.heap.size) w9 wz := by rw [← Hwz.out]; exact Upd.refl
                have hcz : CondsV wz (fun k => w9.heap.size ≤ k) none [] := CondsV.nil
                clear r11 rf
                have r0 := bz.cell 0
                have r1 := bz.cell 1
                have r2 := bz.cell 2
                have r3 := bz.cell 3
                have r4 := bz.cell 4
                have r5 := bz.cell 5
                have r6 := bz.cell 6
                have r7 := bz.cell 7
                have r8 := bz.cell 8
                have r9 := bz.cell 9
                have r10 := bz.cell 10
                have r11 := bz.cell 11
                have r12 := bz.cell 12
                have r13 := bz.cell 13
                have z0 := hz.cell 0
                have z1 := hz.cell 1
                have z2 := hz.cell 2
                have z3 := hz.cell 3
                have z4 := hz.cell 4
                have z5 := hz.cell 5
                have z6 := hz.cell 6
                have z7 := hz.cell 7
                have z8 := hz.cell 8
                have z9 := hz.cell 9
                have z10 := hz.cell 10
                have z11 := hz.cell 11
                have z12 := hz.cell 12
                have z13 := hz.cell 13
                have rf := bz.frozen
                have zf := hz.frozen
                have HZ := Lib.hid hz
                clear hz bz
                go_wp2_with fail
                rw [set14_eq]
                refine bodyPost_ret (results_cell_row rfl _ _ w.heap.size 51 _ (0, 0) _ rfl (set14_blk HZ.out _ _ _ _ _ _ _ _ _ _ _ _ _ _) Try.underlying51 rfl (by kernel_rfl)) rfl ?_
                rw [Hys.out, HRr.out, hc]
                have uE := set14_upd wz w.heap.size (.string name) (.int .i64 L.v) (.int .i64 L.op) (.int .i64 L.imm) (.int .i64 L.iv) (.slice KL L.kids.length kl) (.int .i64 Q.v) (.int .i64 Q.op) (.int .i64 Q.imm) (.int .i64 Q.iv) (.slice KR Q.kids.length kr) (.slice none 0 0) (.int .i64 nv) (.int .i64 0)
                refine ⟨⟨KL, kl, KR, kr, none, 0⟩, rfl, ⟨PtK.mono (fun k hk h => by omega) _ _ _ (PtK.upd uE (fun k hk h => by omega) _ _ _ (PtK.upd uz (fun k hk h => by omega) _ _ _ HpL.out)), PtK.mono (fun k hk h => by omega) _ _ _ (PtK.upd uE (fun k hk h => by omega) _ _ _ (PtK.upd uz (fun k hk h => by omega) _ _ _ HpR.out)), (hcz.upd uE (fun k hk h => by omega)).mono (fun k hk h => by omega), by simp⟩, ?_⟩
                exact (hUw1.trans (HU9.out.trans uz (fun _ _ h => by omega)) (fun k hk h => by omega)).trans uE (fun k hk h => by omega)
end Go.Proofs.Ytnefhokojbkppaa
