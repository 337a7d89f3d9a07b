/-
  What the closures of term and application do.
-/
import Derived.Test.YtblkgjdhaibhgaaOprC
namespace Go.Proofs.Ytblkgjdhaibhgaa
open Go.RowKit

theorem lookF_zero {l : Bs} {c : UInt8} {left : Bool} (h : (lookF l c left).1 = 0) : (lookF l c left).2 = l := by
  unfold lookF at h ⊢
  split at h
  · simp at h
  · split at h
    · simp at h
    · rename_i hl
      rw [if_neg hl]
theorem varF_zero {s : Bs} {c : Nat} {l : Bs} {left : Bool} (h : (varF s c l left).1 = 0) : (varF s c l left).2 = l := by
  unfold varF at h ⊢
  split at h
  · split at h
    · rename_i q
      rw [if_pos q]
      exact lookF_zero h
    · rename_i q
      rw [if_neg q]
  · rfl
theorem lookF_len (l : Bs) (c : UInt8) (left : Bool) : (lookF l c left).2.length ≤ l.length + 1 := by
  unfold lookF
  split
  · simp
  · split <;> simp
theorem varF_len (s : Bs) (c : Nat) (l : Bs) (left : Bool) : (varF s c l left).2.length ≤ l.length + 1 := by
  unfold varF
  split
  · split
    · exact lookF_len _ _ _
    · simp
  · simp
/-- The cells of a pattern without operands. -/
def p0 (q : Pt) : Array Value := #[.int .i64 q.v, .int .i64 q.op, .int .i64 q.imm, .int .i64 q.iv, .slice none 0 0]
/-- What a closure that reads a pattern hands back. -/
def ClsP (w : World) (p g : Nat) (A : Option Addr) (c : Nat) (L : List Tok) (x : St) (o : Option (Pt × PS)) (e : Ending) (w' : World) : Prop :=
  ∃ (q : Pt) (b : Bool) (y : St), e = .returned (.bool b) ∧ q.kids = [] ∧ Blk w' g 30 (p0 q) ∧ RdS w' p A c L y ∧ Keeps w p x y ∧ Upd (fun k => x.own p k ∨ k = g) w w' ∧ (b = true → ∃ ps, o = some (q, ps) ∧ ps.i = x.i ∧ y.vs = ps.vs ∧ y.ms = ps.ms) ∧ (b = false → o = none)
set_option maxRecDepth 100000 in
set_option maxHeartbeats 4000000 in
theorem rApplication1_c {w : World} {p g bx : Nat} {A : Option Addr} {c : Nat} {L : List Tok} {x : St} (h : RdS w p A c L x) (hn : x.ms.length ≤ 100000) (s : Bs) (hs : s.length ≤ 1000000) (q0 : Pt) (hg : Blk w g 30 (p0 q0)) (hx : Blk w bx 53 #[.pointer (some ⟨p, 0, none⟩)]) (hgo : ¬ x.own p g) (hpg : p < g) :
    Calls Try.prog 78 #[.string (kstr s), .pointer (some ⟨bx, 0, none⟩), .pointer (some ⟨g, 0, none⟩)] w (ClsP w p g A c L x (operF x.left s (psOf x))) := by
  have C := Lib.hid (rOperation_c h hn s hs)
  obtain ⟨o, Ho⟩ := nm (operF x.left s (psOf x))
  rw [Ho.out] at C ⊢
  obtain ⟨str, Hstr⟩ := nm (kstr s)
  rw [Hstr.out] at C ⊢
  have d0 := hx.cell 0
  have H := Lib.hid h
  have HG := Lib.hid hg
  have hgw := hg.lt
  clear h hg
  go_enter Try.func78, Try.ntmps78
  go_wp2_with fail
  refine C.out.mono ?_
  rintro e w1 ⟨q, b, y, rfl, hqk, hy, hvs, hk, hu, h1, h2⟩
  obtain ⟨v, op, im, iv, ks⟩ := q
  obtain rfl : ks = [] := hqk
  have b1 := HG.out.upd hu hgo
  obtain ⟨W2, HW2⟩ := nm (w1.alloc (.cells #[.int .i64 v, .int .i64 op, .int .i64 im, .int .i64 iv, .slice none 0 0] 30))
  have u2 : Upd Non w1 W2 := by rw [← HW2.out]; exact Upd.refl.alloc _
  have b2 : Blk W2 w1.heap.size 30 #[.int .i64 v, .int .i64 op, .int .i64 im, .int .i64 iv, .slice none 0 0] := by rw [← HW2.out]; exact Blk.new _ _ _
  have b1 := b1.upd u2 (fun f => f)
  unfold p0 at b1
  have y0 := b1.cell 0
  have y1 := b1.cell 1
  have y2 := b1.cell 2
  have y3 := b1.cell 3
  have y4 := b1.cell 4
  have yf := b1.frozen
  have z0 := b2.cell 0
  have z1 := b2.cell 1
  have z2 := b2.cell 2
  have z3 := b2.cell 3
  have z4 := b2.cell 4
  have HB1 := Lib.hid b1
  have HY := Lib.hid hy
  have HU := Lib.hid hu
  have HU2 := Lib.hid u2
  have HK := Lib.hid hk
  have HVS := Lib.hid hvs
  have H1 := Lib.hid h1
  have H2 := Lib.hid h2
  clear C b1 b2 hy hu u2 hk hvs h1 h2 HG
  rw [show pv (.mk v op im iv []) none 0 = .agg #[.int .i64 v, .int .i64 op, .int .i64 im, .int .i64 iv, .slice none 0 0] from rfl]
  go_upto_region 2 with fail
  rw [HW2.out]
  go_wp2_with fail
  go_ret
  rw [set5_eq]
  have us := set5_upd W2 g (.int .i64 v) (.int .i64 op) (.int .i64 im) (.int .i64 iv) (.slice none 0 0)
  refine ⟨.mk v op im iv [], b, y, rfl, rfl, set5_blk HB1.out _ _ _ _ _, (HY.out.non HU2.out).upd us (fun k _ e => ?_), HK.out, ((HU.out.mono (fun _ _ q => .inl q)).then_non HU2.out).trans us (fun _ _ q => .inr q), (fun q => ?_), H2.out⟩
  · subst e
    have ho : ∀ j, y.own p j → j ≠ k := fun j hj e => by
      subst e
      rcases HK.out.own _ hj with r | r
      · exact hgo r
      · omega
    exact ⟨hpg, fun r => ho _ (.inr (.inl r)) rfl, fun r => ho _ (.inr (.inr r)) rfl⟩
  · obtain ⟨ps, g1, g2, g3, g4⟩ := H1.out q
    exact ⟨ps, g1, g2, by rw [g3]; exact HVS.out, g4⟩

theorem Keeps.trans {w w' : World} {p : Nat} {x y z : St} (h : Keeps w p x y) (k : Keeps w' p y z) (hw : w.heap.size ≤ w'.heap.size) : Keeps w p x z :=
  ⟨k.i.trans h.i, k.why.trans h.why, k.ea.trans h.ea, k.left.trans h.left, fun j hj => by
    rcases k.own j hj with q | q
    · exact h.own j q
    · exact .inr (Nat.le_trans hw q)⟩
set_option maxRecDepth 100000 in
set_option maxHeartbeats 4000000 in
theorem rTerm1_c {w : World} {p g bx : Nat} {A : Option Addr} {c : Nat} {L : List Tok} {x : St} (h : RdS w p A c L x) (hm : x.ms.length ≤ 100000) (hv : x.vs.length ≤ 100000) (s : Bs) (hs : s.length ≤ 1000000) (q0 : Pt) (hg : Blk w g 30 (p0 q0)) (hx : Blk w bx 53 #[.pointer (some ⟨p, 0, none⟩)]) (hgo : ¬ x.own p g) (hxo : ¬ x.own p bx) (hpg : p < g) :
    Calls Try.prog 64 #[.string (kstr s), .pointer (some ⟨g, 0, none⟩), .pointer (some ⟨bx, 0, none⟩)] w (ClsP w p g A c L x (atomF x.left s (psOf x))) := by
  have HO : Hid (atomF x.left s (psOf x) = match decF s with
    | some n => some (.mk 0 1 n 0 [], psOf x)
    | none =>
      if 0 < (varF s 63 x.vs x.left).1 then some (.mk (varF s 63 x.vs x.left).1 0 0 0 [], { psOf x with vs := (varF s 63 x.vs x.left).2 })
      else if 0 < (varF s 36 x.ms x.left).1 then some (.mk 0 1 0 (varF s 36 x.ms x.left).1 [], { psOf x with ms := (varF s 36 x.ms x.left).2 })
      else none) := rfl
  obtain ⟨o, Ho⟩ := nm (atomF x.left s (psOf x))
  rw [Ho.out] at HO ⊢
  have CW := Lib.hid (wParse_c s w hs)
  have CV := Lib.hid (fun w' (y : St) (hy : RdS w' p A c L y) (hn : y.vs.length ≤ 100000) => rVarV_c hy hn s 63 hs)
  have CM := Lib.hid (fun w' (y : St) (hy : RdS w' p A c L y) (hn : y.ms.length ≤ 100000) => rVarM_c hy hn s 36 hs)
  rw [show ((63 : UInt8).toNat : Int) = 63 from rfl, show (63 : UInt8).toNat = 63 from rfl] at CV
  rw [show ((36 : UInt8).toNat : Int) = 36 from rfl, show (36 : UInt8).toNat = 36 from rfl] at CM
  obtain ⟨str, Hstr⟩ := nm (kstr s)
  rw [Hstr.out] at CW CV CM ⊢
  have H := Lib.hid h
  have HG := Lib.hid hg
  have HX := Lib.hid hx
  have hgw := hg.lt
  have HU0 : Hid (Upd (fun k => x.own p k ∨ k = g) w w) := Upd.refl
  unfold p0 at hg
  cases hd : decF s with
  | some n =>
    rw [hd] at CW HO
    simp only [Option.getD_some, Option.isSome_some] at CW
    have HS : Hid (o = some (.mk 0 1 n 0 [], psOf x)) := HO.out
    have y0 := hg.cell 0
    have y1 := hg.cell 1
    have y2 := hg.cell 2
    have y3 := hg.cell 3
    have y4 := hg.cell 4
    have yf := hg.frozen
    have HGB := Lib.hid hg
    clear hd HO CV CM h hg hx
    go_enter Try.func64, Try.ntmps64
    go_wp2_with fail
    refine CW.out.mono ?_
    rintro e w1 ⟨rfl, rfl⟩
    go_wp2_with fail
    go_ret
    rw [set5_eq]
    have us := set5_upd w1 g (.int .i64 0) (.int .i64 1) (.int .i64 n) (.int .i64 0) (.slice none 0 0)
    refine ⟨.mk 0 1 n 0 [], true, x, rfl, rfl, set5_blk HGB.out _ _ _ _ _, H.out.upd us (fun k _ e => by subst e; exact ⟨hpg, fun r => hgo (.inr (.inl r)), fun r => hgo (.inr (.inr r))⟩), Keeps.refl, us.mono (fun _ _ q => .inr q), (fun _ => ⟨psOf x, HS.out, rfl, rfl, rfl⟩), (fun q => by cases q)⟩
  | none =>
    rw [hd] at CW HO
    simp only [Option.getD_none, Option.isSome_none] at CW
    have HO2 : Hid (o = if 0 < (varF s 63 x.vs x.left).1 then some (.mk (varF s 63 x.vs x.left).1 0 0 0 [], { psOf x with vs := (varF s 63 x.vs x.left).2 })
      else if 0 < (varF s 36 x.ms x.left).1 then some (.mk 0 1 0 (varF s 36 x.ms x.left).1 [], { psOf x with ms := (varF s 36 x.ms x.left).2 })
      else none) := HO.out
    clear hd HO h hg
    go_enter Try.func64, Try.ntmps64
    go_wp2_with fail
    refine CW.out.mono ?_
    rintro e w1 ⟨rfl, rfl⟩
    go_upto_region 5 with fail
    have d0 := hx.cell 0
    obtain ⟨wD, HwD⟩ := nm w1.drew
    have uD : Upd Non w1 wD := by rw [← HwD.out]; exact Upd.refl.drew
    have C1 := Lib.hid (CV.out wD x (H.out.non uD) hv)
    refine wp_region_held_drew (S := fun w' => w'.cell? ⟨bx, 0, none⟩ = some (.pointer (some ⟨p, 0, none⟩))) (by kernel_rfl) (by rw [HwD.out]; exact cell_upd d0 uD (fun f => f)) (fun hHeld => ?_)
    rw [HwD.out] at hHeld ⊢
    refine wpAnyH_take (i := 0) (v := ?_) rfl (by kernel_rfl) (by kernel_rfl) (by kernel_rfl) (fun _ _ _ h => h) (Or.inl ⟨by rfl, ?_⟩) (by assumption) ?_
    rotate_left
    · intro w hSw; (try dsimp only at hSw); go_simp; try with_reducible rfl
    try simp only [put_y]
    try simp only [Act.put]
    try simp only [put_z]
    refine wpAnyH_take (i := 1) (v := ?_) rfl (by kernel_rfl) (by kernel_rfl) (by kernel_rfl) (fun _ _ _ h => h) (Or.inl ⟨by rfl, ?_⟩) (by assumption) ?_
    rotate_left
    · intro w hSw; (try dsimp only at hSw); go_simp; try with_reducible rfl
    try simp only [put_y]
    try simp only [Act.put]
    try simp only [put_z]
    refine wpAnyH_take (i := 2) (v := ?_) rfl (by kernel_rfl) (by kernel_rfl) (by kernel_rfl) (fun _ _ _ h => h) (Or.inl ⟨by rfl, ?_⟩) (by assumption) ?_
    rotate_left
    · intro w hSw; (try dsimp only at hSw); go_simp; try with_reducible rfl
    try simp only [put_y]
    try simp only [Act.put]
    try simp only [put_z]
    refine wpAnyH_take (i := 3) (v := ?_) rfl (by kernel_rfl) (by kernel_rfl) (by kernel_rfl) (fun _ _ _ h => h) (Or.inl ⟨by rfl, ?_⟩) (by assumption) ?_
    rotate_left
    · intro w hSw; (try dsimp only at hSw); go_simp; try with_reducible rfl
    try simp only [put_y]
    try simp only [Act.put]
    try simp only [put_z]
    refine wpAnyH_take (i := 4) (v := ?_) rfl (by kernel_rfl) (by kernel_rfl) (by kernel_rfl) (fun _ _ _ h => h) (Or.inl ⟨by rfl, ?_⟩) (by assumption) ?_
    rotate_left
    · intro w hSw; (try dsimp only at hSw); go_simp; try with_reducible rfl
    try simp only [put_y]
    try simp only [Act.put]
    try simp only [put_z]
    refine wpAnyH_ready (rs := [5]) (by kernel_rfl) (by simp) ?_
    refine AllReadyH.cons rfl (fun K hK => ?_) AllReadyH.nil
    go_simp
    refine C1.out.mono ?_
    rintro e w2 ⟨rfl, y, hy, hy1, hy2, hk, hu⟩
    go_wp2_with fail
    have d2 := cell_upd (cell_upd d0 uD (fun f => f)) hu hxo
    refine hK.out _ _ ?_ (fun hHeld => ?_)
    · exact d2
    clear hK K
    try simp only [put_y]
    try simp only [Act.put]
    try simp only [put_z]
    refine wpAnyH_take (i := 6) (v := ?_) rfl (by kernel_rfl) (by kernel_rfl) (by kernel_rfl) (fun _ _ _ h => h) (Or.inl ⟨by rfl, ?_⟩) (by assumption) ?_
    rotate_left
    · intro w hSw; (try dsimp only at hSw); go_simp; try with_reducible rfl
    try simp only [put_y]
    try simp only [Act.put]
    try simp only [put_z]
    refine wpAnyH_done (by kernel_rfl) ?_ _
    have hlv : y.left = x.left := hk.left
    have hu2 : Upd (x.own p) w1 w2 := (uD.mono (fun _ _ f => f.elim)).trans hu (fun _ _ q => q)
    have hk2 : Keeps w1 p x y := ⟨hk.i, hk.why, hk.ea, hk.left, fun j hj => (hk.own j hj).imp_right (fun q => Nat.le_trans uD.size q)⟩
    obtain ⟨V, HV⟩ := nm (varF s 63 x.vs x.left)
    have HVZ : Hid (V.1 = 0 → V.2 = x.vs) := fun q => by rw [← HV.out] at q ⊢; exact varF_zero q
    rw [HV.out] at hy1 HO2 ⊢
    have hg2 := HG.out.upd hu2 hgo
    have hx2 := HX.out.upd hu2 hxo
    have HY := Lib.hid hy
    have HY1 := Lib.hid hy1
    have HY2 := Lib.hid hy2
    have HK := Lib.hid hk2
    have HU := Lib.hid hu2
    clear hHeld C1 CV hy hy1 hy2 hk hu hk2 hu2 uD HwD d0 hx
    have hyo : ∀ j, j = g ∨ j = bx → ¬ y.own p j := fun j hj q => by
      rcases HK.out.own j q with r | r
      · rcases hj with e | e
        · exact hgo (e ▸ r)
        · exact hxo (e ▸ r)
      · have := HG.out.lt
        have := HX.out.lt
        rcases hj with e | e <;> omega
    have HYO := Lib.hid hyo
    clear hyo
    obtain ⟨v1, Hv1⟩ := nm V.1
    rw [Hv1.out] at HVZ HO2 ⊢
    by_cases hpos : 0 < v1
    · have fp : decide ((0 : Int) < (v1 : Int)) = true := decide_eq_true (by omega)
      have HS : Hid (o = some (.mk v1 0 0 0 [], { psOf x with vs := V.2 })) := by show _ = _; rw [HO2.out, if_pos hpos]
      have hg := hg2
      unfold p0 at hg
      have y0 := hg.cell 0
      have y1 := hg.cell 1
      have y2 := hg.cell 2
      have y3 := hg.cell 3
      have y4 := hg.cell 4
      have yf := hg.frozen
      have HGB := Lib.hid hg
      clear HO2 CM hg hg2 hx2 d2
      go_wp2_with fail
      go_ret
      rw [set5_eq]
      have us := set5_upd w2 g (.int .i64 v1) (.int .i64 0) (.int .i64 0) (.int .i64 0) (.slice none 0 0)
      refine ⟨.mk v1 0 0 0 [], true, y, rfl, rfl, set5_blk HGB.out _ _ _ _ _, HY.out.upd us (fun k _ e => by subst e; exact ⟨hpg, fun r => HYO.out _ (.inl rfl) (.inr (.inl r)), fun r => HYO.out _ (.inl rfl) (.inr (.inr r))⟩), HK.out, (HU.out.mono (fun _ _ q => .inl q)).trans us (fun _ _ q => .inr q), (fun _ => ⟨_, HS.out, rfl, HY1.out, HY2.out⟩), (fun q => by cases q)⟩
    · have fp : decide ((0 : Int) < (v1 : Int)) = false := decide_eq_false (by omega)
      have HO3 : Hid (o = if 0 < (varF s 36 x.ms x.left).1 then some (.mk 0 1 0 (varF s 36 x.ms x.left).1 [], { psOf x with ms := (varF s 36 x.ms x.left).2 }) else none) := by show _ = _; rw [HO2.out, if_neg hpos]
      have HVS : Hid (y.vs = x.vs) := by show _ = _; rw [HY1.out]; exact HVZ.out (by omega)
      clear HO2 HVZ
      go_upto_region 9 with fail
      obtain ⟨wE, HwE⟩ := nm w2.drew
      have uE : Upd Non w2 wE := by rw [← HwE.out]; exact Upd.refl.drew
      have C2 := Lib.hid (CM.out wE y (HY.out.non uE) (by rw [HY2.out]; exact hm))
      rw [HY2.out, HK.out.left] at C2
      refine wp_region_held_drew (S := fun w' => w'.cell? ⟨bx, 0, none⟩ = some (.pointer (some ⟨p, 0, none⟩))) (by kernel_rfl) (by rw [HwE.out]; exact cell_upd d2 uE (fun f => f)) (fun hHeld => ?_)
      rw [HwE.out] at hHeld ⊢
      refine wpAnyH_take (i := 0) (v := ?_) rfl (by kernel_rfl) (by kernel_rfl) (by kernel_rfl) (fun _ _ _ h => h) (Or.inl ⟨by rfl, ?_⟩) (by assumption) ?_
      rotate_left
      · intro w hSw; (try dsimp only at hSw); go_simp; try with_reducible rfl
      try simp only [put_y]
      try simp only [Act.put]
      try simp only [put_z]
      refine wpAnyH_take (i := 1) (v := ?_) rfl (by kernel_rfl) (by kernel_rfl) (by kernel_rfl) (fun _ _ _ h => h) (Or.inl ⟨by rfl, ?_⟩) (by assumption) ?_
      rotate_left
      · intro w hSw; (try dsimp only at hSw); go_simp; try with_reducible rfl
      try simp only [put_y]
      try simp only [Act.put]
      try simp only [put_z]
      refine wpAnyH_take (i := 2) (v := ?_) rfl (by kernel_rfl) (by kernel_rfl) (by kernel_rfl) (fun _ _ _ h => h) (Or.inl ⟨by rfl, ?_⟩) (by assumption) ?_
      rotate_left
      · intro w hSw; (try dsimp only at hSw); go_simp; try with_reducible rfl
      try simp only [put_y]
      try simp only [Act.put]
      try simp only [put_z]
      refine wpAnyH_take (i := 3) (v := ?_) rfl (by kernel_rfl) (by kernel_rfl) (by kernel_rfl) (fun _ _ _ h => h) (Or.inl ⟨by rfl, ?_⟩) (by assumption) ?_
      rotate_left
      · intro w hSw; (try dsimp only at hSw); go_simp; try with_reducible rfl
      try simp only [put_y]
      try simp only [Act.put]
      try simp only [put_z]
      refine wpAnyH_take (i := 4) (v := ?_) rfl (by kernel_rfl) (by kernel_rfl) (by kernel_rfl) (fun _ _ _ h => h) (Or.inl ⟨by rfl, ?_⟩) (by assumption) ?_
      rotate_left
      · intro w hSw; (try dsimp only at hSw); go_simp; try with_reducible rfl
      try simp only [put_y]
      try simp only [Act.put]
      try simp only [put_z]
      refine wpAnyH_ready (rs := [5]) (by kernel_rfl) (by simp) ?_
      refine AllReadyH.cons rfl (fun K hK => ?_) AllReadyH.nil
      go_simp
      refine C2.out.mono ?_
      rintro e w3 ⟨rfl, z, hz, hz1, hz2, hkz, huz⟩
      go_wp2_with fail
      have d3 := cell_upd (cell_upd d2 uE (fun f => f)) huz (HYO.out _ (.inr rfl))
      refine hK.out _ _ ?_ (fun hHeld => ?_)
      · exact d3
      clear hK K
      try simp only [put_y]
      try simp only [Act.put]
      try simp only [put_z]
      refine wpAnyH_take (i := 6) (v := ?_) rfl (by kernel_rfl) (by kernel_rfl) (by kernel_rfl) (fun _ _ _ h => h) (Or.inl ⟨by rfl, ?_⟩) (by assumption) ?_
      rotate_left
      · intro w hSw; (try dsimp only at hSw); go_simp; try with_reducible rfl
      try simp only [put_y]
      try simp only [Act.put]
      try simp only [put_z]
      refine wpAnyH_done (by kernel_rfl) ?_ _
      obtain ⟨M, HM⟩ := nm (varF s 36 x.ms x.left)
      rw [HM.out] at hz1 HO3 ⊢
      obtain ⟨m1, Hm1⟩ := nm M.1
      rw [Hm1.out] at HO3 ⊢
      have hg := ((hg2.upd uE (fun f => f)).upd huz (HYO.out _ (.inl rfl)))
      have huz2 : Upd (y.own p) w2 w3 := (uE.mono (fun _ _ f => f.elim)).trans huz (fun _ _ q => q)
      have HKZ : Hid (Keeps w1 p x z) := HK.out.trans ⟨hkz.i, hkz.why, hkz.ea, hkz.left, fun j hj => (hkz.own j hj).imp_right (fun q => Nat.le_trans uE.size q)⟩ HU.out.size
      have HUZ : Hid (Upd (fun k => x.own p k ∨ k = g) w1 w3) := (HU.out.mono (fun _ _ q => .inl q)).trans huz2 (fun j hj q => by
        rcases HK.out.own j q with r | r
        · exact .inl r
        · omega)
      have HZO : Hid (¬ z.own p g) := fun q => by
        rcases hkz.own g q with r | r
        · exact HYO.out _ (.inl rfl) r
        · have := hg2.lt; have := uE.size; omega
      have HZ := Lib.hid hz
      have HZ1 := Lib.hid hz1
      have HZ2 := Lib.hid hz2
      unfold p0 at hg
      have y0 := hg.cell 0
      have y1 := hg.cell 1
      have y2 := hg.cell 2
      have y3 := hg.cell 3
      have y4 := hg.cell 4
      have yf := hg.frozen
      have HGB := Lib.hid hg
      clear hHeld C2 CM hz hz1 hz2 hkz huz huz2 uE HwE d2 d3 hg hg2 hx2
      by_cases hpos : 0 < m1
      · have fp : decide ((0 : Int) < (m1 : Int)) = true := decide_eq_true (by omega)
        have HS : Hid (o = some (.mk 0 1 0 m1 [], { psOf x with ms := M.2 })) := by show _ = _; rw [HO3.out, if_pos hpos]
        clear HO3
        go_wp2_with fail
        go_ret
        rw [set5_eq]
        have us := set5_upd w3 g (.int .i64 0) (.int .i64 1) (.int .i64 0) (.int .i64 m1) (.slice none 0 0)
        refine ⟨.mk 0 1 0 m1 [], true, z, rfl, rfl, set5_blk HGB.out _ _ _ _ _, HZ.out.upd us (fun k _ e => by subst e; exact ⟨hpg, fun r => HZO.out (.inr (.inl r)), fun r => HZO.out (.inr (.inr r))⟩), HKZ.out, HUZ.out.trans us (fun _ _ q => .inr q), (fun _ => ⟨_, HS.out, rfl, by rw [HZ2.out]; exact HVS.out, HZ1.out⟩), (fun q => by cases q)⟩
      · have fp : decide ((0 : Int) < (m1 : Int)) = false := decide_eq_false (by omega)
        have HN : Hid (o = none) := by show _ = _; rw [HO3.out, if_neg hpos]
        clear HO3
        go_wp2_with fail
        go_ret
        rw [set5_eq]
        have us := set5_upd w3 g (.int .i64 0) (.int .i64 1) (.int .i64 0) (.int .i64 m1) (.slice none 0 0)
        refine ⟨.mk 0 1 0 m1 [], false, z, rfl, rfl, set5_blk HGB.out _ _ _ _ _, HZ.out.upd us (fun k _ e => by subst e; exact ⟨hpg, fun r => HZO.out (.inr (.inl r)), fun r => HZO.out (.inr (.inr r))⟩), HKZ.out, HUZ.out.trans us (fun _ _ q => .inr q), (fun q => by cases q), (fun _ => HN.out)⟩
end Go.Proofs.Ytblkgjdhaibhgaa
