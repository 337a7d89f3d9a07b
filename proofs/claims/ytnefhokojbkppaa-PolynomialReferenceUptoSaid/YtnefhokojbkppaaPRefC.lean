/-
  PolynomialReference returns true.
-/
import Derived.Test.YtnefhokojbkppaaPSymC
import Derived.Test.YtnefhokojbkppaaOpenRl
namespace Go.Proofs.Ytnefhokojbkppaa
open Go.RowKit

theorem nz_same {n : Nat} {o : Option PL} {r r' : PL} (z : NzIs n o r) (z' : NzIs n o r') : mns r = mns r' := by
  cases e : o with
  | none => exact (same_of z z' (.inl ⟨e, e⟩)).2
  | some l => exact (same_of z z' (.inr ⟨l, l, e, e, Eqv.refl⟩)).2
theorem nz_small {p : Pt} {h : Int} {r : PL} (z : NzIs h.toNat (normF p h) r) : (mns r).length ≤ 1000000000000 ∧ ∀ m ∈ mns r, m.1.length ≤ 1000000000000 := by
  obtain ⟨z1, z2, _, z4⟩ := z
  refine ⟨by omega, fun m hm => ?_⟩
  cases e : normF p h with
  | none => rw [z4 e] at hm; cases hm
  | some l =>
    unfold normF at e
    split at e
    · rename_i hv
      unfold validF at hv
      simp only [Bool.and_eq_true, decide_eq_true_eq] at hv
      have := z2 m hm
      omega
    · cases e
theorem PtK.three {w : World} {F : Nat → Prop} {g : Nat} {k0 k1 k2 : Pt} {KA0 KA1 KA2 : Option Addr} {kc0 kc1 kc2 kc : Nat} (v op imm iv : Int)
    (h : Blk w g 24 #[.int .i64 k0.v, .int .i64 k0.op, .int .i64 k0.imm, .int .i64 k0.iv, .slice KA0 k0.kids.length kc0, .int .i64 k1.v, .int .i64 k1.op, .int .i64 k1.imm, .int .i64 k1.iv, .slice KA1 k1.kids.length kc1, .int .i64 k2.v, .int .i64 k2.op, .int .i64 k2.imm, .int .i64 k2.iv, .slice KA2 k2.kids.length kc2])
    (h0 : PtK w F k0 KA0 kc0) (h1 : PtK w F k1 KA1 kc1) (h2 : PtK w F k2 KA2 kc2) (hF : F g) (hkc : 3 ≤ kc) : PtK w F (.mk v op imm iv [k0, k1, k2]) (some ⟨g, 0, none⟩) kc := by
  rw [PtK.iff]
  refine ⟨hkc, .inr ⟨g, 0, rfl, hF, PtL.of fun i hi => ?_⟩⟩
  have : i = 0 ∨ i = 1 ∨ i = 2 := by simp [Pt.kids] at hi; omega
  rcases this with rfl | rfl | rfl
  · exact ⟨KA0, kc0, h.cell 0, h.cell 1, h.cell 2, h.cell 3, h.cell 4, h0⟩
  · exact ⟨KA1, kc1, h.cell 5, h.cell 6, h.cell 7, h.cell 8, h.cell 9, h1⟩
  · exact ⟨KA2, kc2, h.cell 10, h.cell 11, h.cell 12, h.cell 13, h.cell 14, h2⟩
/-- Rule r lies at offset o of block b. -/
def RlAt (w : World) (b o : Nat) (r : Rl) (a : RlA) : Prop :=
    w.cell? ⟨b, o, none⟩ = some (.string r.name) ∧ w.cell? ⟨b, o + 1, none⟩ = some (.int .i64 r.l.v) ∧ w.cell? ⟨b, o + 2, none⟩ = some (.int .i64 r.l.op) ∧ w.cell? ⟨b, o + 3, none⟩ = some (.int .i64 r.l.imm) ∧ w.cell? ⟨b, o + 4, none⟩ = some (.int .i64 r.l.iv) ∧ w.cell? ⟨b, o + 5, none⟩ = some (.slice a.la r.l.kids.length a.lc) ∧
    w.cell? ⟨b, o + 6, none⟩ = some (.int .i64 r.r.v) ∧ w.cell? ⟨b, o + 7, none⟩ = some (.int .i64 r.r.op) ∧ w.cell? ⟨b, o + 8, none⟩ = some (.int .i64 r.r.imm) ∧ w.cell? ⟨b, o + 9, none⟩ = some (.int .i64 r.r.iv) ∧ w.cell? ⟨b, o + 10, none⟩ = some (.slice a.ra r.r.kids.length a.rc) ∧
    w.cell? ⟨b, o + 11, none⟩ = some (.slice a.ca r.conds.length a.cc) ∧ w.cell? ⟨b, o + 12, none⟩ = some (.int .i64 r.vars) ∧ w.cell? ⟨b, o + 13, none⟩ = some (.int .i64 r.imms)
theorem RlAt.upd {w w' : World} {b o : Nat} {r : Rl} {a : RlA} {S : Nat → Prop} (h : RlAt w b o r a) (u : Upd S w w') (hb : ¬ S b) : RlAt w' b o r a := by
  obtain ⟨c0, c1, c2, c3, c4, c5, c6, c7, c8, c9, c10, c11, c12, c13⟩ := h
  exact ⟨cell_upd c0 u hb, cell_upd c1 u hb, cell_upd c2 u hb, cell_upd c3 u hb, cell_upd c4 u hb, cell_upd c5 u hb, cell_upd c6 u hb, cell_upd c7 u hb, cell_upd c8 u hb, cell_upd c9 u hb, cell_upd c10 u hb, cell_upd c11 u hb, cell_upd c12 u hb, cell_upd c13 u hb⟩
/-- The rules lie at A. -/
def RlsV (w : World) (F : Nat → Prop) (A : Option Addr) (L : List Rl) : Prop :=
  L = [] ∨ ∃ b o, A = some ⟨b, o, none⟩ ∧ F b ∧ ∀ i (h : i < L.length), ∃ a, RlAt w b (o + i * 14) L[i] a ∧ RlK w F L[i] a
theorem RlsV.upd {w w' : World} {F S : Nat → Prop} {A : Option Addr} {L : List Rl} (h : RlsV w F A L) (u : Upd S w w') (d : ∀ k, k < w.heap.size → F k → ¬ S k) : RlsV w' F A L := by
  rcases h with h | ⟨b, o, e, hF, h⟩
  · exact .inl h
  · refine .inr ⟨b, o, e, hF, fun i hi => ?_⟩
    obtain ⟨a, ha, hk⟩ := h i hi
    exact ⟨a, ha.upd u (d b (World.block_lt_of_cell? _ _ ha.1) hF), hk.upd u d⟩
theorem RlsV.at_ {w : World} {F : Nat → Prop} {A : Option Addr} {L : List Rl} (h : RlsV w F A L) {i : Nat} (hi : i < L.length) : ∃ b o a, A = some ⟨b, o, none⟩ ∧ F b ∧ b < w.heap.size ∧ RlAt w b (o + i * 14) L[i] a ∧ RlK w F L[i] a := by
  rcases h with h | ⟨b, o, e, hF, h⟩
  · subst h; simp at hi
  · obtain ⟨a, ha, hk⟩ := h i hi
    exact ⟨b, o, a, e, hF, World.block_lt_of_cell? _ _ ha.1, ha, hk⟩
theorem RlsV.three {w : World} {F : Nat → Prop} {g : Nat} {r s t : Rl} {a b c : RlA} (h : Blk w g 51 #[.string r.name, .int .i64 r.l.v, .int .i64 r.l.op, .int .i64 r.l.imm, .int .i64 r.l.iv, .slice a.la r.l.kids.length a.lc, .int .i64 r.r.v, .int .i64 r.r.op, .int .i64 r.r.imm, .int .i64 r.r.iv, .slice a.ra r.r.kids.length a.rc, .slice a.ca r.conds.length a.cc, .int .i64 r.vars, .int .i64 r.imms,
      .string s.name, .int .i64 s.l.v, .int .i64 s.l.op, .int .i64 s.l.imm, .int .i64 s.l.iv, .slice b.la s.l.kids.length b.lc, .int .i64 s.r.v, .int .i64 s.r.op, .int .i64 s.r.imm, .int .i64 s.r.iv, .slice b.ra s.r.kids.length b.rc, .slice b.ca s.conds.length b.cc, .int .i64 s.vars, .int .i64 s.imms,
      .string t.name, .int .i64 t.l.v, .int .i64 t.l.op, .int .i64 t.l.imm, .int .i64 t.l.iv, .slice c.la t.l.kids.length c.lc, .int .i64 t.r.v, .int .i64 t.r.op, .int .i64 t.r.imm, .int .i64 t.r.iv, .slice c.ra t.r.kids.length c.rc, .slice c.ca t.conds.length c.cc, .int .i64 t.vars, .int .i64 t.imms])
    (hr : RlK w F r a) (hs : RlK w F s b) (ht : RlK w F t c) (hF : F g) : RlsV w F (some ⟨g, 0, none⟩) [r, s, t] := by
  refine .inr ⟨g, 0, rfl, hF, fun i hi => ?_⟩
  have : i = 0 ∨ i = 1 ∨ i = 2 := by simp at hi; omega
  rcases this with rfl | rfl | rfl
  · exact ⟨a, ⟨h.cell 0, h.cell 1, h.cell 2, h.cell 3, h.cell 4, h.cell 5, h.cell 6, h.cell 7, h.cell 8, h.cell 9, h.cell 10, h.cell 11, h.cell 12, h.cell 13⟩, hr⟩
  · exact ⟨b, ⟨h.cell 14, h.cell 15, h.cell 16, h.cell 17, h.cell 18, h.cell 19, h.cell 20, h.cell 21, h.cell 22, h.cell 23, h.cell 24, h.cell 25, h.cell 26, h.cell 27⟩, hs⟩
  · exact ⟨c, ⟨h.cell 28, h.cell 29, h.cell 30, h.cell 31, h.cell 32, h.cell 33, h.cell 34, h.cell 35, h.cell 36, h.cell 37, h.cell 38, h.cell 39, h.cell 40, h.cell 41⟩, ht⟩

theorem kConds_len (n : Int) (nv : Nat) : (kCondsF n nv).length ≤ 1 := by
  unfold kCondsF
  repeat' split
  all_goals simp
theorem side_size (op : Int) (p : Pt) : (sideF op p).size ≤ 1 + p.size := by
  unfold sideF
  split
  · rw [Pt.size_one]; exact Nat.le_refl _
  · omega
theorem kRule_sz (name : ByteArray) (hn : name.size ≤ 1000) (xs : List Int) : RlSz (kRuleF name xs) := by
  have h1 := patF_size (3 : Nat) false 3 1 xs.tail
  have h2 := (numF_len (patF (3 : Nat) false 3 1 xs.tail).1 [] []).2.2
  have h3 := side_size 21 (numF (patF (3 : Nat) false 3 1 xs.tail).1 [] []).1
  have h4 := patF_size (numF (patF (3 : Nat) false 3 1 xs.tail).1 [] []).2.1.length false 2 1 (patF (3 : Nat) false 3 1 xs.tail).2
  have h5 := kConds_len (xs.headD 0) (numF (patF (3 : Nat) false 3 1 xs.tail).1 [] []).2.1.length
  simp only [kSize] at h1 h4
  unfold kRuleF
  dsimp only
  split
  · exact ⟨by dsimp only; omega, by dsimp only; rw [Pt.size_leaf]; omega, by simp, by dsimp only; omega⟩
  · exact ⟨by dsimp only; omega, by dsimp only; omega, by dsimp only; omega, by dsimp only; omega⟩

set_option maxRecDepth 100000 in
set_option maxHeartbeats 4000000 in
theorem poReference_c (w : World) (F G : Nat → Prop) (raw : Pt) (KA : Option Addr) (kc : Nat) (hraw : PtK w (fun _ => True) raw KA kc) (hrs : raw.size ≤ 1000000000000) (A B : Option Addr) (c d : Nat) (xs ys : List Int) (vs : Int) (hx : Ints w F A xs) (hc : xs.length ≤ c) (hI : ∀ x ∈ xs, I64 x) (hn : xs.length ≤ 100000000000000)
    (hy : Ints w G B ys) (hd : ys.length ≤ d) (hJ : ∀ x ∈ ys, I64 x) (hm : ys.length ≤ 100000000000000) (rl : Rl) (a : RlA) (hK : RlK w (fun _ => True) rl a) (hZ : RlSz rl) :
    Calls Try.prog 8 #[pv raw KA kc, .slice A xs.length c, .slice B ys.length d, .int .i64 vs, rlv rl a] w fun e w' => e = .returned (.bool true) ∧ Upd Non w w' := by
  obtain ⟨k, hk⟩ : ∃ k : Nat, vs % 4 = (k : Int) := Int.eq_ofNat_of_zero_le (by omega)
  have hk4 : k < 4 := by omega
  obtain ⟨W1, HW1⟩ := nm (w.alloc (.cells #[.int .i64 raw.v, .int .i64 raw.op, .int .i64 raw.imm, .int .i64 raw.iv, .slice KA raw.kids.length kc] 24))
  have u1 : Upd Non w W1 := by rw [← HW1.out]; exact Upd.refl.alloc _
  have b1 : Blk W1 w.heap.size 24 #[.int .i64 raw.v, .int .i64 raw.op, .int .i64 raw.imm, .int .i64 raw.iv, .slice KA raw.kids.length kc] := by rw [← HW1.out]; exact Blk.new _ _ _
  have s1 : W1.heap.size = w.heap.size + 1 := by rw [← HW1.out]; simp
  obtain ⟨W2, HW2⟩ := nm (W1.alloc (.cells (rlCells rl a) 51))
  have u2 : Upd Non W1 W2 := by rw [← HW2.out]; exact Upd.refl.alloc _
  have b2 : Blk W2 (w.heap.size + 1) 51 (rlCells rl a) := by rw [← HW2.out, ← s1]; exact Blk.new _ _ _
  have s2 : W2.heap.size = w.heap.size + 2 := by rw [← HW2.out]; simp [s1]
  have b1 := b1.upd u2 (fun f => f)
  have e1 := HW1.out
  have e2 := HW2.out
  have U2 := u1.then_non u2
  have HRAW := Lib.hid (PtK.upd U2 (fun _ _ _ f => f) _ _ _ (PtK.mono (G := fun k => k < w.heap.size) (fun k hk _ => hk) _ _ _ hraw))
  have HK := Lib.hid ((hK.mono (G := fun k => k < w.heap.size) (fun k hk _ => hk)).upd U2 (fun _ _ _ f => f))
  have hyW : Ints W2 (fun k => k < w.heap.size) B ys := (hy.mono (fun k hk _ => hk)).upd U2 (fun _ _ _ f => f)
  have hxW : Ints W2 (fun k => k < w.heap.size) A xs := (hx.mono (fun k hk _ => hk)).upd U2 (fun _ _ _ f => f)
  have C1 := Lib.hid (fun (w' : World) (u : Upd (fun k => w.heap.size + 1 < k) W2 w') => pattern_c w' _ A c xs (1 + k) (by omega) (by omega) (hxW.upd u (fun k _ h1 h2 => by omega)) hc hI hn)
  have C2 := Lib.hid (fun (w' : World) (u : Upd (fun k => w.heap.size + 1 < k) W2 w') => kRule_c w' _ A c xs ⟨#[97]⟩ (hxW.upd u (fun k _ h1 h2 => by omega)) hc hI hn)
  have C3 := Lib.hid (fun (w' : World) (u : Upd (fun k => w.heap.size + 1 < k) W2 w') => both_c w' _ _ A B c d xs ys (1 + k) (by omega) (by omega) (hxW.upd u (fun k _ h1 h2 => by omega)) hc hI hn (hyW.upd u (fun k _ h1 h2 => by omega)) hd hJ hm)
  rw [show ((1 + k : Nat) : Int) = 1 + (k : Int) by omega] at C1 C3
  have C0 := Lib.hid (pick_c vs 4 W2 (by omega) (by omega))
  rw [hk] at C0
  obtain ⟨l, Hl⟩ := nm xs.length
  rw [Hl.out] at C1 C2 C3
  rw [Hl.out]
  obtain ⟨m, Hm⟩ := nm ys.length
  rw [Hm.out] at C3 hd
  rw [Hm.out]
  have HB1 := Lib.hid b1
  have HB2 := Lib.hid b2
  have HU := Lib.hid U2
  unfold pv rlv
  unfold rlCells at e2 ⊢
  clear hx hc hI hn hy hK hraw u1 u2 b1 b2 U2 HW1 HW2 hxW
  go_enter Try.func8, Try.ntmps8
  go_wp2_with fail
  refine C0.out.mono ?_
  rintro e w0 ⟨rfl, rfl⟩
  clear C0
  go_upto_region 2 with fail
  go_cut [12] (fun s wx => ∃ p, s = .pointer (some ⟨p, 0, none⟩) ∧ w.heap.size + 1 < p ∧ Rd wx (fun k => w.heap.size + 1 < k ∧ k ≠ p) p (ys.take 20) ∧ Upd Non W2 wx)
  case first =>
    clear C1 C2 C3
    obtain ⟨W3, HW3⟩ := nm (W2.alloc (.cells #[] 3))
    have hU2 : Upd Non W2 W3 := by rw [← HW3.out]; exact Upd.refl.alloc _
    have ho2 : Own W3 3 1 (some ⟨w.heap.size + 2, 0, none⟩) 0 0 (icells []) := by rw [← HW3.out]; exact own_empty' 3 1 s2.symm
    have e3 := HW3.out
    have hx2 := hyW.upd hU2 (fun _ _ _ f => f)
    obtain ⟨n, hn⟩ : ∃ n : Nat, (ys.take 20).length = n := ⟨_, rfl⟩
    have hmx : Ints W3 (· < w.heap.size) B (ys.take 20) := hx2.take_ 20
    have hml : n ≤ 20 := by rw [← hn]; simp; omega
    have H : ∀ (A3 : Option Addr) (c3 : Nat) (w3 : World), Own w3 3 1 A3 (0 + n) c3 (icells [] ++ icells (ys.take 20)) → Upd (At (some ⟨w.heap.size + 2, 0, none⟩)) W3 w3 → (∀ k, At A3 k → At (some ⟨w.heap.size + 2, 0, none⟩) k ∨ k = W3.heap.size) →
        ∃ p, Value.pointer (some ⟨w3.heap.size, 0, none⟩) = .pointer (some ⟨p, 0, none⟩) ∧ w.heap.size + 1 < p ∧ Rd (w3.alloc (.cells #[.slice A3 n c3, .int .i64 0] 54)) (fun k => w.heap.size + 1 < k ∧ k ≠ p) p (ys.take 20) ∧ Upd Non W2 (w3.alloc (.cells #[.slice A3 n c3, .int .i64 0] 54)) := by
      intro A3 c3 w3 ho3 hu3 hat3
      have hs3 := hu3.size
      have hsW2 : W3.heap.size = w.heap.size + 3 := by rw [← HW3.out]; simp [s2]
      obtain ⟨W4, HW4⟩ := nm (w3.alloc (.cells #[.slice A3 n c3, .int .i64 0] 54))
      have uA : Upd Non w3 W4 := by rw [← HW4.out]; exact Upd.refl.alloc _
      rw [HW4.out]
      refine ⟨w3.heap.size, rfl, by omega, ⟨A3, c3, .int .i64 0, ?_, ?_, ?_, fun x hx => hJ x (List.mem_of_mem_take hx)⟩, ?_⟩
      · rw [← HW4.out, hn]; exact Blk.new _ _ _
      · have ho4 := ho3.upd uA (fun _ _ f => f)
        refine (Own.ints ho4).mono (fun k hk h => ?_)
        have hlt := ho3.lt h
        rcases hat3 k h with h | h
        · rw [At.some_] at h; omega
        · omega
      · have := ho3.le; omega
      · exact (hU2.trans hu3 (fun i hi h => by rw [At.some_] at h; omega)).then_non uA
    have hlm : ys.length ≤ 20 ∧ n = ys.length ∨ 20 < ys.length ∧ n = 20 := by rw [← hn]; simp; omega
    rw [Hm.out] at hlm
    rcases hlm with ⟨hl, rfl⟩ | ⟨hl, rfl⟩
    · have hmin : (min (n : Int) 20).toNat = n := by omega
      go_wp2_with (at_builtin; refine wpList_app rfl rfl T_ints' rfl ho2 rfl hmx (by rw [List.length_map, hn, Nat.mul_one]) (icells_one _) (by simp only [maxLen]; omega) (by omega) ?_; intro A3 c3 w3 ho3 hu3 hat3)
      go_meet
      case rel => exact H A3 c3 w3 ho3 hu3 hat3
    · have hmin : (min (m : Int) 20).toNat = 20 := by omega
      obtain ⟨b0, o0, rfl, _⟩ := hmx.at_ (k := 0) (by omega)
      go_wp2_with (at_builtin; refine wpList_app rfl rfl T_ints' rfl ho2 rfl hmx (by rw [List.length_map, hn, Nat.mul_one]) (icells_one _) (by simp only [maxLen]; omega) (by omega) ?_; intro A3 c3 w3 ho3 hu3 hat3)
      go_meet
      case rel => exact H A3 c3 w3 ho3 hu3 hat3
  case rest =>
    obtain ⟨w2, rfl⟩ : ∃ x : World, x = wc := ⟨_, rfl⟩
    obtain ⟨p, rfl, hpw, hR, hU1⟩ := hcut
    obtain ⟨zs, Hzs⟩ := nm (ys.take 20)
    rw [Hzs.out] at hR
    have hpl := hR.lt
    have HU1 := Lib.hid hU1
    clear hyW e2 Hzs
    go_upto_region 3 with fail
    obtain ⟨wD, HwD⟩ := nm w2.drew
    have uD : Upd Non w2 wD := by rw [← HwD.out]; exact Upd.refl.drew
    have v0 := hU1.then_non uD
    have hsD := uD.size
    have hR0 := hR.upd uD (fun _ _ _ f => f) (fun f => f)
    have C1 := Lib.hid (C1.out wD (v0.mono (fun _ _ f => f.elim)))
    have HS := Lib.hid (fun w' (u : Upd (· = p) wD w') => (HB1.out.upd v0 (fun f => f)).upd u (by omega))
    refine wp_region_held_drew (S := fun w' => w'.cell? ⟨w.heap.size, 0, none⟩ = some (.int .i64 raw.v) ∧ w'.cell? ⟨w.heap.size, 1, none⟩ = some (.int .i64 raw.op) ∧ w'.cell? ⟨w.heap.size, 2, none⟩ = some (.int .i64 raw.imm) ∧ w'.cell? ⟨w.heap.size, 3, none⟩ = some (.int .i64 raw.iv) ∧ w'.cell? ⟨w.heap.size, 4, none⟩ = some (.slice KA raw.kids.length kc)) (by kernel_rfl) (by rw [HwD.out]; have b := HS.out _ Upd.refl; exact ⟨b.cell 0, b.cell 1, b.cell 2, b.cell 3, b.cell 4⟩) (fun hHeld => ?_)
    rw [HwD.out] at hHeld ⊢
    refine wpAnyH_take (i := 0) (v := ?_) rfl (by kernel_rfl) (by kernel_rfl) (by kernel_rfl) (fun _ _ _ h => h) (Or.inl ⟨by rfl, ?_⟩) (by assumption) ?_
    rotate_left
    · intro w hSw; (try dsimp only at hSw); go_simp; try with_reducible rfl
    try simp only [put_y]
    try simp only [Act.put]
    try simp only [put_z]
    refine wpAnyH_take (i := 1) (v := ?_) rfl (by kernel_rfl) (by kernel_rfl) (by kernel_rfl) (fun _ _ _ h => h) (Or.inl ⟨by rfl, ?_⟩) (by assumption) ?_
    rotate_left
    · intro w hSw; (try dsimp only at hSw); go_simp; try with_reducible rfl
    try simp only [put_y]
    try simp only [Act.put]
    try simp only [put_z]
    refine wpAnyH_take (i := 2) (v := ?_) rfl (by kernel_rfl) (by kernel_rfl) (by kernel_rfl) (fun _ _ _ h => h) (Or.inl ⟨by rfl, ?_⟩) (by assumption) ?_
    rotate_left
    · intro w hSw; (try dsimp only at hSw); go_simp; try with_reducible rfl
    try simp only [put_y]
    try simp only [Act.put]
    try simp only [put_z]
    refine wpAnyH_take (i := 4) (v := ?_) rfl (by kernel_rfl) (by kernel_rfl) (by kernel_rfl) (fun _ _ _ h => h) (Or.inl ⟨by rfl, ?_⟩) (by assumption) ?_
    rotate_left
    · intro w hSw; (try dsimp only at hSw); go_simp; try with_reducible rfl
    try simp only [put_y]
    try simp only [Act.put]
    try simp only [put_z]
    refine wpAnyH_take (i := 8) (v := ?_) rfl (by kernel_rfl) (by kernel_rfl) (by kernel_rfl) (fun _ _ _ h => h) (Or.inl ⟨by rfl, ?_⟩) (by assumption) ?_
    rotate_left
    · intro w hSw; (try dsimp only at hSw); go_simp; try with_reducible rfl
    try simp only [put_y]
    try simp only [Act.put]
    try simp only [put_z]
    refine wpAnyH_ready (rs := [3]) (by kernel_rfl) (by simp) ?_
    refine AllReadyH.cons rfl (fun K hK => ?_) AllReadyH.nil
    go_simp
    refine C1.out.mono ?_
    rintro e w3 ⟨q, K1, k1, rfl, -, hqs, hq, hu3⟩
    unfold pv
    go_wp2_with fail
    have v1 : Upd (· = p) wD w3 := hu3.mono (fun _ _ f => f.elim)
    refine hK.out _ _ ?_ (fun hHeld => ?_)
    · exact ⟨(HS.out _ v1).cell 0, (HS.out _ v1).cell 1, (HS.out _ v1).cell 2, (HS.out _ v1).cell 3, (HS.out _ v1).cell 4⟩
    clear hK K
    try simp only [put_y]
    try simp only [Act.put]
    try simp only [put_z]
    have hR3 := hR0.upd hu3 (fun _ _ _ f => f) (fun f => f)
    have C5 := Lib.hid (rdPattern_c 3 (by omega) (by omega) false 2 (by omega) w3 _ p zs 1 (.inl rfl) (fun k h => h.2) hR3)
    clear C1 hR hR0 hR3
    refine wpAnyH_ready (rs := [5]) (by kernel_rfl) (by simp) ?_
    refine AllReadyH.cons rfl (fun K hK => ?_) AllReadyH.nil
    go_simp
    refine C5.out.mono ?_
    rintro e w4 ⟨K2, k2, rfl, hP, -, hu4⟩
    have hPs := patF_size (3 : Nat) false 2 1 zs
    simp only [kSize] at hPs
    obtain ⟨P, HP⟩ := nm (patF (3 : Nat) false 2 1 zs).1
    rw [HP.out] at hP hPs ⊢
    unfold pv
    go_wp2_with fail
    have v2 := v1.trans hu4 (fun _ _ h => h)
    refine hK.out _ _ ?_ (fun hHeld => ?_)
    · exact ⟨(HS.out _ v2).cell 0, (HS.out _ v2).cell 1, (HS.out _ v2).cell 2, (HS.out _ v2).cell 3, (HS.out _ v2).cell 4⟩
    clear hK K
    try simp only [put_y]
    try simp only [Act.put]
    try simp only [put_z]
    refine wpAnyH_ready (rs := [6]) (by kernel_rfl) (by simp) ?_
    refine AllReadyH.cons rfl (fun K hK => ?_) AllReadyH.nil
    go_simp
    obtain ⟨w5, Hw5⟩ := nm (w4.alloc (.cells #[.int .i64 raw.v, .int .i64 raw.op, .int .i64 raw.imm, .int .i64 raw.iv, .slice KA raw.kids.length kc, .int .i64 q.v, .int .i64 q.op, .int .i64 q.imm, .int .i64 q.iv, .slice K1 q.kids.length k1, .int .i64 P.v, .int .i64 P.op, .int .i64 P.imm, .int .i64 P.iv, .slice K2 P.kids.length k2] 24))
    have u5 : Upd Non w4 w5 := by rw [← Hw5.out]; exact Upd.refl.alloc _
    have b5 : Blk w5 w4.heap.size 24 #[.int .i64 raw.v, .int .i64 raw.op, .int .i64 raw.imm, .int .i64 raw.iv, .slice KA raw.kids.length kc, .int .i64 q.v, .int .i64 q.op, .int .i64 q.imm, .int .i64 q.iv, .slice K1 q.kids.length k1, .int .i64 P.v, .int .i64 P.op, .int .i64 P.imm, .int .i64 P.iv, .slice K2 P.kids.length k2] := by rw [← Hw5.out]; exact Blk.new _ _ _
    rw [Hw5.out]
    have v3 := v2.then_non u5
    refine hK.out _ _ ?_ (fun hHeld => ?_)
    · exact ⟨(HS.out _ v3).cell 0, (HS.out _ v3).cell 1, (HS.out _ v3).cell 2, (HS.out _ v3).cell 3, (HS.out _ v3).cell 4⟩
    clear hK K
    try simp only [put_y]
    try simp only [Act.put]
    try simp only [put_z]
    refine wpAnyH_take (i := 7) (v := ?_) rfl (by kernel_rfl) (by kernel_rfl) (by kernel_rfl) (fun _ _ _ h => h) (Or.inl ⟨by rfl, ?_⟩) (by assumption) ?_
    rotate_left
    · intro w hSw; (try dsimp only at hSw); go_simp; try with_reducible rfl
    try simp only [put_y]
    try simp only [Act.put]
    try simp only [put_z]
    refine wpAnyH_done (by kernel_rfl) ?_ _
    have V1 : PtK w5 (fun _ => True) (.mk 0 0 0 0 [raw, q, P]) (some ⟨w4.heap.size, 0, none⟩) 3 := by
      refine PtK.three 0 0 0 0 b5 ?_ ?_ ?_ trivial (Nat.le_refl _)
      · exact PtK.mono (fun _ _ _ => trivial) _ _ _ (PtK.upd (v0.then_non Upd.refl |>.mono (T := (· = p)) (fun _ _ f => f.elim) |>.trans v3 (fun _ _ h => h)) (fun k hk h => by omega) _ _ _ HRAW.out)
      · exact PtK.mono (fun _ _ _ => trivial) _ _ _ (PtK.upd (hu4.then_non u5) (fun k hk h => by omega) _ _ _ hq)
      · exact PtK.mono (fun _ _ _ => trivial) _ _ _ (PtK.upd u5 (fun _ _ _ f => f) _ _ _ hP)
    have hlen : (Pt.mk 0 0 0 0 [raw, q, P]).kids.length = 3 := rfl
    have hsz : ∀ x ∈ (Pt.mk 0 0 0 0 [raw, q, P]).kids, x.size ≤ 1000000000000 := by
      intro x hx
      simp only [Pt.kids, List.mem_cons, List.not_mem_nil, or_false] at hx
      rcases hx with rfl | rfl | rfl <;> omega
    have HW5 := Lib.hid ((v0.mono (T := (· = p)) (fun _ _ f => f.elim)).trans v3 (fun _ _ h => h))
    generalize Pt.mk 0 0 0 0 [raw, q, P] = L at V1 hlen hsz
    obtain ⟨X, HX⟩ := nm (some (⟨w4.heap.size, 0, none⟩ : Addr))
    rw [HX.out] at V1 ⊢
    have HLEN := Lib.hid hlen
    clear hHeld HS C5 hq hP HP u5 b5 v0 v1 v2 v3 Hw5 uD hlen HRAW HwD hU1
    go_wp2_with fail
    go_loopg [47] 3 (fun g s wr => ∃ i : Nat, Hid (g = 3 - i) ∧ i ≤ 3 ∧ s = .int .i64 i ∧ Upd Non w5 wr)
    case atStart => exact ⟨0, rfl, by omega, rfl, Upd.refl⟩
    case round =>
      obtain ⟨i, Hg, hi, rfl, hu⟩ := hrel
      obtain ⟨w6, rfl⟩ : ∃ x : World, x = wr := ⟨_, rfl⟩
      by_cases hlt : i < 3
      · have hil : i < L.kids.length := by rw [HLEN.out]; exact hlt
        have ti : decide ((i : Int) < 3) = true := decide_eq_true (by omega)
        obtain ⟨b, o, rfl, -, hbw, KB, kd, h0, h1, h2, h3, h4, h5⟩ := (PtK.upd hu (fun _ _ _ f => f) _ _ _ V1).at_ hil
        have hps : L.kids[i].size ≤ 1000000000000 := hsz _ (List.getElem_mem hil)
        generalize L.kids[i] = x at *
        obtain ⟨W6, HW6⟩ := nm (w6.alloc (.cells #[.int .i64 x.v, .int .i64 x.op, .int .i64 x.imm, .int .i64 x.iv, .slice KB x.kids.length kd] 24))
        have u6 : Upd Non w6 W6 := by rw [← HW6.out]; exact Upd.refl.alloc _
        have b6 : Blk W6 w6.heap.size 24 #[.int .i64 x.v, .int .i64 x.op, .int .i64 x.imm, .int .i64 x.iv, .slice KB x.kids.length kd] := by rw [← HW6.out]; exact Blk.new _ _ _
        have s6 : W6.heap.size = w6.heap.size + 1 := by rw [← HW6.out]; simp
        obtain ⟨W7, HW7⟩ := nm (W6.alloc (.cells #[.int .i64 vs, .int .i64 (1 + (k : Int)), .int .i64 3] 3))
        have u7 : Upd Non W6 W7 := by rw [← HW7.out]; exact Upd.refl.alloc _
        have hY : Ints W7 (fun _ => True) (some ⟨w6.heap.size + 1, 0, none⟩) [vs, 1 + (k : Int), 3] := by rw [← HW7.out]; exact Ints.new [vs, 1 + (k : Int), 3] rfl s6.symm
        have b7 := b6.upd u7 (fun f => f)
        have e6 := HW6.out
        have e7 := HW7.out
        have hx7 := PtK.upd (u6.then_non u7) (fun _ _ _ f => f) _ _ _ h5
        have HU7 := Lib.hid ((hu.then_non u6).then_non u7)
        have hyl : [vs, 1 + (k : Int), 3].length = 3 := rfl
        generalize hys : [vs, 1 + (k : Int), 3] = hs at hY hyl
        have HYL := Lib.hid hyl
        clear h5 u6 u7 b6 HW6 HW7 hys hyl
        go_wp2_with fail
        obtain ⟨Y, HY⟩ := nm (some (⟨w6.heap.size + 1, 0, none⟩ : Addr))
        rw [HY.out] at hY ⊢
        clear h0 h1 h2 h3 h4 e6 e7
        go_loopg [55] 3 (fun g s wr => ∃ j : Nat, Hid (g = 3 - j) ∧ j ≤ 3 ∧ s = .int .i64 j ∧ Upd Non W7 wr)
        case atStart => exact ⟨0, rfl, by omega, rfl, Upd.refl⟩
        case round =>
          obtain ⟨j, Hj, hj, rfl, hv⟩ := hrel
          by_cases hlj : j < 3
          · have hjl : j < hs.length := by rw [HYL.out]; exact hlj
            obtain ⟨b2, o2, rfl, -, hb2w, hc2⟩ := (hY.upd hv (fun _ _ _ f => f)).at_ hjl
            generalize hs[j] = h at *
            obtain ⟨w8, rfl⟩ : ∃ x : World, x = wr := ⟨_, rfl⟩
            have CA := Lib.hid (normU_c x w8 _ KB kd h (PtK.upd hv (fun _ _ _ f => f) _ _ _ hx7) hps)
            have CB := Lib.hid (fun w' (u : Upd Non w8 w') => r18Normalize_c x w' _ KB kd h (PtK.upd (hv.then_non u) (fun _ _ _ f => f) _ _ _ hx7) hps)
            unfold pv at CA CB
            have HZ1 := Lib.hid (fun r r' z z' => @nz_same h.toNat (normF x h) r r' z z')
            have HZ2 := Lib.hid (fun r z => @nz_small x h r z)
            obtain ⟨z, Hz⟩ := nm (normF x h)
            rw [Hz.out] at CA CB HZ1 HZ2
            have b8 := b7.upd hv (fun f => f)
            have c0 := b8.cell 0
            have c1 := b8.cell 1
            have c2 := b8.cell 2
            have c3 := b8.cell 3
            have c4 := b8.cell 4
            go_wp2_with fail
            refine CA.out.mono ?_
            rintro e w9 ⟨r1, A1, n1, rfl, hv1, hz1, hu9⟩
            have b9 := b8.upd hu9 (fun f => f)
            have c0 := b9.cell 0
            have c1 := b9.cell 1
            have c2 := b9.cell 2
            have c3 := b9.cell 3
            have c4 := b9.cell 4
            have HA := Lib.hid hz1
            clear CA hz1 b8 b9
            go_wp2_with fail
            refine (CB.out _ hu9).mono ?_
            rintro e w10 ⟨r2, A2, n2, rfl, hv2, hz2, hu10⟩
            have hE := HZ1.out _ _ HA.out hz2
            obtain ⟨g1, g2⟩ := HZ2.out _ HA.out
            rw [← hE] at hv2 ⊢
            have CC := Lib.hid (samePoly_c w10 _ _ A1 A2 n1 n2 (mns r1) (mns r1) (hv1.upd hu10 (fun _ _ _ f => f)) hv2 g2 g1)
            rw [show decide (mns r1 = mns r1) = true from decide_eq_true rfl] at CC
            obtain ⟨n3, Hn3⟩ := nm (mns r1).length
            rw [Hn3.out] at CC ⊢
            have HV := Lib.hid ((hv.then_non hu9).then_non hu10)
            clear CB HZ1 HZ2 HA hz2 hE g1 g2 hv1 hv2 c0 c1 c2 c3 c4
            cases z with
            | none =>
              go_wp2_with fail
              refine CC.out.mono ?_
              rintro e w11 ⟨rfl, hu11⟩
              go_wp2_with fail
              go_roundg (3 - (j + 1))
              case measure => rw [Hj.out]; omega
              case rel => exact ⟨j + 1, rfl, by omega, by go_num, HV.out.then_non hu11⟩
            | some lz =>
              go_wp2_with fail
              refine CC.out.mono ?_
              rintro e w11 ⟨rfl, hu11⟩
              go_wp2_with fail
              go_roundg (3 - (j + 1))
              case measure => rw [Hj.out]; omega
              case rel => exact ⟨j + 1, rfl, by omega, by go_num, HV.out.then_non hu11⟩
          · obtain rfl : j = 3 := by omega
            go_wp2_with fail
            go_roundg (3 - (i + 1))
            case measure => rw [Hg.out]; omega
            case rel => exact ⟨i + 1, rfl, by omega, by go_num, HU7.out.then_non hv⟩
      · obtain rfl : i = 3 := by omega
        clear Hg V1 HX hsz HLEN
        have T6 := HW5.out.then_non hu
        go_upto_region 15 with fail
        obtain ⟨wD, HwD⟩ := nm w6.drew
        have uD : Upd Non w6 wD := by rw [← HwD.out]; exact Upd.refl.drew
        have T0 := T6.then_non uD
        have C2 := Lib.hid (C2.out wD (T0.mono (fun i hi h => by omega)))
        have HS := Lib.hid (fun w' (u : Upd Non wD w') => rl_cells ((HB2.out.upd T0 (by omega)).upd u (fun f => f)))
        clear hlt HW5 hu C1
        refine wp_region_held_drew (S := fun w' => w'.cell? ⟨w.heap.size + 1, 0, none⟩ = some (.string rl.name) ∧ w'.cell? ⟨w.heap.size + 1, 1, none⟩ = some (.int .i64 rl.l.v) ∧ w'.cell? ⟨w.heap.size + 1, 2, none⟩ = some (.int .i64 rl.l.op) ∧ w'.cell? ⟨w.heap.size + 1, 3, none⟩ = some (.int .i64 rl.l.imm) ∧ w'.cell? ⟨w.heap.size + 1, 4, none⟩ = some (.int .i64 rl.l.iv) ∧ w'.cell? ⟨w.heap.size + 1, 5, none⟩ = some (.slice a.la rl.l.kids.length a.lc) ∧ w'.cell? ⟨w.heap.size + 1, 6, none⟩ = some (.int .i64 rl.r.v) ∧ w'.cell? ⟨w.heap.size + 1, 7, none⟩ = some (.int .i64 rl.r.op) ∧ w'.cell? ⟨w.heap.size + 1, 8, none⟩ = some (.int .i64 rl.r.imm) ∧ w'.cell? ⟨w.heap.size + 1, 9, none⟩ = some (.int .i64 rl.r.iv) ∧ w'.cell? ⟨w.heap.size + 1, 10, none⟩ = some (.slice a.ra rl.r.kids.length a.rc) ∧ w'.cell? ⟨w.heap.size + 1, 11, none⟩ = some (.slice a.ca rl.conds.length a.cc) ∧ w'.cell? ⟨w.heap.size + 1, 12, none⟩ = some (.int .i64 rl.vars) ∧ w'.cell? ⟨w.heap.size + 1, 13, none⟩ = some (.int .i64 rl.imms)) (by kernel_rfl) (by rw [HwD.out]; exact HS.out _ Upd.refl) (fun hHeld => ?_)
        rw [HwD.out] at hHeld ⊢
        refine wpAnyH_take (i := 0) (v := ?_) rfl (by kernel_rfl) (by kernel_rfl) (by kernel_rfl) (fun _ _ _ h => h) (Or.inl ⟨by rfl, ?_⟩) (by assumption) ?_
        rotate_left
        · intro w hSw; (try dsimp only at hSw); go_simp; try with_reducible rfl
        try simp only [put_y]
        try simp only [Act.put]
        try simp only [put_z]
        refine wpAnyH_take (i := 1) (v := ?_) rfl (by kernel_rfl) (by kernel_rfl) (by kernel_rfl) (fun _ _ _ h => h) (Or.inl ⟨by rfl, ?_⟩) (by assumption) ?_
        rotate_left
        · intro w hSw; (try dsimp only at hSw); go_simp; try with_reducible rfl
        try simp only [put_y]
        try simp only [Act.put]
        try simp only [put_z]
        refine wpAnyH_take (i := 3) (v := ?_) rfl (by kernel_rfl) (by kernel_rfl) (by kernel_rfl) (fun _ _ _ h => h) (Or.inl ⟨by rfl, ?_⟩) (by assumption) ?_
        rotate_left
        · intro w hSw; (try dsimp only at hSw); go_simp; try with_reducible rfl
        try simp only [put_y]
        try simp only [Act.put]
        try simp only [put_z]
        refine wpAnyH_take (i := 4) (v := ?_) rfl (by kernel_rfl) (by kernel_rfl) (by kernel_rfl) (fun _ _ _ h => h) (Or.inl ⟨by rfl, ?_⟩) (by assumption) ?_
        rotate_left
        · intro w hSw; (try dsimp only at hSw); go_simp; try with_reducible rfl
        try simp only [put_y]
        try simp only [Act.put]
        try simp only [put_z]
        refine wpAnyH_take (i := 5) (v := ?_) rfl (by kernel_rfl) (by kernel_rfl) (by kernel_rfl) (fun _ _ _ h => h) (Or.inl ⟨by rfl, ?_⟩) (by assumption) ?_
        rotate_left
        · intro w hSw; (try dsimp only at hSw); go_simp; try with_reducible rfl
        try simp only [put_y]
        try simp only [Act.put]
        try simp only [put_z]
        refine wpAnyH_take (i := 9) (v := ?_) rfl (by kernel_rfl) (by kernel_rfl) (by kernel_rfl) (fun _ _ _ h => h) (Or.inl ⟨by rfl, ?_⟩) (by assumption) ?_
        rotate_left
        · intro w hSw; (try dsimp only at hSw); go_simp; try with_reducible rfl
        try simp only [put_y]
        try simp only [Act.put]
        try simp only [put_z]
        refine wpAnyH_ready (rs := [2]) (by kernel_rfl) (by simp) ?_
        refine AllReadyH.cons rfl (fun K hK => ?_) AllReadyH.nil
        go_simp
        refine C2.out.mono ?_
        rintro e w7 ⟨a1, rfl, hk1, hu7⟩
        have hz1 := kRule_sz ⟨#[97]⟩ (by show (1 : Nat) ≤ 1000; omega) (xs.take 40)
        generalize kRuleF ⟨#[97]⟩ (xs.take 40) = y at hk1 hz1 ⊢
        unfold rlv rlCells
        go_wp2_with fail
        refine hK.out _ _ ?_ (fun hHeld => ?_)
        · exact HS.out _ hu7
        clear hK K
        try simp only [put_y]
        try simp only [Act.put]
        try simp only [put_z]
        have C3 := Lib.hid (C3.out w7 ((T0.then_non hu7).mono (fun i hi h => by omega)))
        refine wpAnyH_ready (rs := [6]) (by kernel_rfl) (by simp) ?_
        refine AllReadyH.cons rfl (fun K hK => ?_) AllReadyH.nil
        go_simp
        refine C3.out.mono ?_
        rintro e w8 ⟨q9, R9, a2, rfl, hq9, hR9, hk2, hu8⟩
        have hz2 := both_sz hq9 hR9
        generalize bothF q9 R9 = z at hk2 hz2 ⊢
        unfold rlv rlCells
        go_wp2_with fail
        have v8 := hu7.then_non hu8
        refine hK.out _ _ ?_ (fun hHeld => ?_)
        · exact HS.out _ v8
        clear hK K
        try simp only [put_y]
        try simp only [Act.put]
        try simp only [put_z]
        refine wpAnyH_ready (rs := [7]) (by kernel_rfl) (by simp) ?_
        refine AllReadyH.cons rfl (fun K hK => ?_) AllReadyH.nil
        go_simp
        obtain ⟨w9, Hw9⟩ := nm (w8.alloc (.cells #[.string rl.name, .int .i64 rl.l.v, .int .i64 rl.l.op, .int .i64 rl.l.imm, .int .i64 rl.l.iv, .slice a.la rl.l.kids.length a.lc, .int .i64 rl.r.v, .int .i64 rl.r.op, .int .i64 rl.r.imm, .int .i64 rl.r.iv, .slice a.ra rl.r.kids.length a.rc, .slice a.ca rl.conds.length a.cc, .int .i64 rl.vars, .int .i64 rl.imms, .string y.name, .int .i64 y.l.v, .int .i64 y.l.op, .int .i64 y.l.imm, .int .i64 y.l.iv, .slice a1.la y.l.kids.length a1.lc, .int .i64 y.r.v, .int .i64 y.r.op, .int .i64 y.r.imm, .int .i64 y.r.iv, .slice a1.ra y.r.kids.length a1.rc, .slice a1.ca y.conds.length a1.cc, .int .i64 y.vars, .int .i64 y.imms, .string z.name, .int .i64 z.l.v, .int .i64 z.l.op, .int .i64 z.l.imm, .int .i64 z.l.iv, .slice a2.la z.l.kids.length a2.lc, .int .i64 z.r.v, .int .i64 z.r.op, .int .i64 z.r.imm, .int .i64 z.r.iv, .slice a2.ra z.r.kids.length a2.rc, .slice a2.ca z.conds.length a2.cc, .int .i64 z.vars, .int .i64 z.imms] 51))
        have u9 : Upd Non w8 w9 := by rw [← Hw9.out]; exact Upd.refl.alloc _
        have b9 : Blk w9 w8.heap.size 51 #[.string rl.name, .int .i64 rl.l.v, .int .i64 rl.l.op, .int .i64 rl.l.imm, .int .i64 rl.l.iv, .slice a.la rl.l.kids.length a.lc, .int .i64 rl.r.v, .int .i64 rl.r.op, .int .i64 rl.r.imm, .int .i64 rl.r.iv, .slice a.ra rl.r.kids.length a.rc, .slice a.ca rl.conds.length a.cc, .int .i64 rl.vars, .int .i64 rl.imms, .string y.name, .int .i64 y.l.v, .int .i64 y.l.op, .int .i64 y.l.imm, .int .i64 y.l.iv, .slice a1.la y.l.kids.length a1.lc, .int .i64 y.r.v, .int .i64 y.r.op, .int .i64 y.r.imm, .int .i64 y.r.iv, .slice a1.ra y.r.kids.length a1.rc, .slice a1.ca y.conds.length a1.cc, .int .i64 y.vars, .int .i64 y.imms, .string z.name, .int .i64 z.l.v, .int .i64 z.l.op, .int .i64 z.l.imm, .int .i64 z.l.iv, .slice a2.la z.l.kids.length a2.lc, .int .i64 z.r.v, .int .i64 z.r.op, .int .i64 z.r.imm, .int .i64 z.r.iv, .slice a2.ra z.r.kids.length a2.rc, .slice a2.ca z.conds.length a2.cc, .int .i64 z.vars, .int .i64 z.imms] := by rw [← Hw9.out]; exact Blk.new _ _ _
        rw [Hw9.out]
        have v9 := v8.then_non u9
        refine hK.out _ _ ?_ (fun hHeld => ?_)
        · exact HS.out _ v9
        clear hK K
        try simp only [put_y]
        try simp only [Act.put]
        try simp only [put_z]
        refine wpAnyH_take (i := 8) (v := ?_) rfl (by kernel_rfl) (by kernel_rfl) (by kernel_rfl) (fun _ _ _ h => h) (Or.inl ⟨by rfl, ?_⟩) (by assumption) ?_
        rotate_left
        · intro w hSw; (try dsimp only at hSw); go_simp; try with_reducible rfl
        try simp only [put_y]
        try simp only [Act.put]
        try simp only [put_z]
        refine wpAnyH_done (by kernel_rfl) ?_ _
        have V2 : RlsV w9 (fun _ => True) (some ⟨w8.heap.size, 0, none⟩) [rl, y, z] := by
          refine RlsV.three b9 ?_ ?_ ?_ trivial
          · exact (HK.out.upd (T0.then_non v9) (fun k hk h => by omega)).mono (fun _ _ _ => trivial)
          · exact (hk1.upd (hu8.then_non u9) (fun _ _ _ f => f)).mono (fun _ _ _ => trivial)
          · exact (hk2.upd u9 (fun _ _ _ f => f)).mono (fun _ _ _ => trivial)
        have hsz : ∀ r ∈ [rl, y, z], RlSz r := by
          intro r hr
          simp only [List.mem_cons, List.not_mem_nil, or_false] at hr
          rcases hr with rfl | rfl | rfl
          · exact hZ
          · exact hz1
          · exact hz2
        have hlen : [rl, y, z].length = 3 := rfl
        have HW9 : Hid (Upd Non w w9) := (HU.out.trans T0 (fun i hi h => by omega)).then_non v9
        generalize [rl, y, z] = RL at V2 hsz hlen
        obtain ⟨X2, HX2⟩ := nm (some (⟨w8.heap.size, 0, none⟩ : Addr))
        rw [HX2.out] at V2 ⊢
        have HLEN := Lib.hid hlen
        have HSZ := Lib.hid hsz
        clear hHeld HS C2 C3 hk1 hk2 u9 b9 v8 v9 Hw9 uD hlen hsz HwD T0 T6 hz1 hz2 hu7 hu8 HB1 HB2 HK HU
        go_wp2_with fail
        go_loopg [91] 3 (fun g s wr => ∃ i : Nat, Hid (g = 3 - i) ∧ i ≤ 3 ∧ s = .int .i64 i ∧ Upd Non w9 wr)
        case atStart => exact ⟨0, rfl, by omega, rfl, Upd.refl⟩
        case round =>
          obtain ⟨i, Hg, hi, rfl, hu⟩ := hrel
          obtain ⟨wa, rfl⟩ : ∃ x : World, x = wr := ⟨_, rfl⟩
          by_cases hlt : i < 3
          · have ti : decide ((i : Int) < 3) = true := decide_eq_true (by omega)
            have hil : i < RL.length := by rw [HLEN.out]; exact hlt
            obtain ⟨b, o, ar, rfl, -, hbw, hat, hk⟩ := (V2.upd hu (fun _ _ _ f => f)).at_ hil
            have hsx := HSZ.out _ (List.getElem_mem hil)
            generalize RL[i] = x at *
            obtain ⟨c0, c1, c2, c3, c4, c5, c6, c7, c8, c9, c10, c11, c12, c13⟩ := hat
            obtain ⟨Wb, HWb⟩ := nm (wa.alloc (.cells (rlCells x ar) 51))
            have ub : Upd Non wa Wb := by rw [← HWb.out]; exact Upd.refl.alloc _
            have bb : Blk Wb wa.heap.size 51 (rlCells x ar) := by rw [← HWb.out]; exact Blk.new _ _ _
            have hkb := hk.upd ub (fun _ _ _ f => f)
            have CP := Lib.hid (pProve_c x ar _ Wb hkb hsx)
            have CQ := Lib.hid (fun w' (u : Upd Non Wb w') => r18Polynomial_c x ar _ w' (hkb.upd u (fun _ _ _ f => f)) hsx)
            have HC := Lib.hid (fun w' (u : Upd Non Wb w') => rl_cells (bb.upd u (fun f => f)))
            obtain ⟨d0, d1, d2, d3, d4, d5, d6, d7, d8, d9, d10, d11, d12, d13⟩ := HC.out Wb Upd.refl
            have eb := HWb.out
            have HV := Lib.hid (hu.then_non ub)
            unfold rlv rlCells at CP CQ
            unfold rlCells at eb
            clear hk hkb bb ub HWb hsx
            go_wp2_with fail
            refine CP.out.mono ?_
            rintro e wc ⟨ms1, A1, n1, t1, rfl, hm1, hv1, hu9⟩
            obtain ⟨d0, d1, d2, d3, d4, d5, d6, d7, d8, d9, d10, d11, d12, d13⟩ := HC.out wc hu9
            have HA := Lib.hid hm1
            clear CP hm1 c0 c1 c2 c3 c4 c5 c6 c7 c8 c9 c10 c11 c12 c13 eb
            go_wp2_with fail
            refine (CQ.out _ hu9).mono ?_
            rintro e wd ⟨ms2, A2, n2, t2, rfl, hm2, hv2, hu10⟩
            obtain ⟨rfl, rfl⟩ := MsIs.same HA.out hm2
            obtain ⟨g1, g2⟩ := hm2.small
            have CC := Lib.hid (samePoly_c wd _ _ A1 A2 n1 n2 ms1 ms1 (hv1.upd hu10 (fun _ _ _ f => f)) hv2 g2 g1)
            rw [show decide (ms1 = ms1) = true from decide_eq_true rfl] at CC
            obtain ⟨n3, Hn3⟩ := nm ms1.length
            rw [Hn3.out] at CC ⊢
            have HV := Lib.hid ((HV.out.then_non hu9).then_non hu10)
            clear CQ HC HA hm2 g1 g2 hv1 hv2 d0 d1 d2 d3 d4 d5 d6 d7 d8 d9 d10 d11 d12 d13
            cases t1 with
            | false =>
              go_wp2_with fail
              refine CC.out.mono ?_
              rintro e we ⟨rfl, hu11⟩
              go_wp2_with fail
              go_roundg (3 - (i + 1))
              case measure => rw [Hg.out]; omega
              case rel => exact ⟨i + 1, rfl, by omega, by go_num, HV.out.then_non hu11⟩
            | true =>
              go_wp2_with fail
              refine CC.out.mono ?_
              rintro e we ⟨rfl, hu11⟩
              go_wp2_with fail
              go_roundg (3 - (i + 1))
              case measure => rw [Hg.out]; omega
              case rel => exact ⟨i + 1, rfl, by omega, by go_num, HV.out.then_non hu11⟩
          · obtain rfl : i = 3 := by omega
            have C8 := Lib.hid (poExamples_c wa)
            go_wp2_with fail
            refine C8.out.mono ?_
            rintro e wb ⟨rfl, hu8⟩
            go_wp2_with fail
            go_ret
            exact ⟨rfl, (HW9.out.then_non hu).then_non hu8⟩
end Go.Proofs.Ytnefhokojbkppaa
