/-
  The reader's number, patternVar, immVar and their closures.
-/
import Derived.Test.YtblkgjdhaibhgaaWrdC
namespace Go.Proofs.Ytblkgjdhaibhgaa
open Go.RowKit

/-- What a closure that reads into an int hands back. -/
def ClsI {α : Type} (w : World) (p g : Nat) (t : TypeId) (A : Option Addr) (c : Nat) (L : List Tok) (x : St) (o : Option (α × PS)) (P : α → Int → Prop) (e : Ending) (w' : World) : Prop :=
  ∃ (b : Bool) (k : Int) (x2 : St), e = .returned (.bool b) ∧ Blk w' g t #[.int .i64 k] ∧ RdS w' p A c L x2 ∧ Keeps w p x x2 ∧ Upd (fun k => x.own p k ∨ k = g) w w' ∧ (b = true → ∃ v ps, o = some (v, ps) ∧ P v k ∧ x2.vs = ps.vs ∧ x2.ms = ps.ms) ∧ (b = false → o = none)
set_option maxRecDepth 100000 in
set_option maxHeartbeats 4000000 in
theorem rNumber1_c {w : World} {p g : Nat} {A : Option Addr} {c : Nat} {L : List Tok} {x : St} (h : RdS w p A c L x) (s : Bs) (hs : s.length ≤ 1000000) (k0 : Int) (hg : Blk w g 2 #[.int .i64 k0]) (hgo : ¬ x.own p g) (hpg : p < g) :
    Calls Try.prog 85 #[.string (kstr s), .pointer (some ⟨g, 0, none⟩)] w (ClsI w p g 2 A c L x ((decF s).map fun n => (n, psOf x)) (fun v k => v = k)) := by
  have CW := Lib.hid (wParse_c s w hs)
  obtain ⟨o, Ho⟩ := nm (decF s)
  rw [Ho.out] at CW ⊢
  obtain ⟨str, Hstr⟩ := nm (kstr s)
  rw [Hstr.out] at CW ⊢
  obtain ⟨n, Hn⟩ := nm (o.getD 0)
  obtain ⟨b, Hb⟩ := nm o.isSome
  rw [Hn.out, Hb.out] at CW
  have y0 := hg.cell 0
  have f0 := hg.frozen 0
  have H := Lib.hid h
  have HG := Lib.hid hg
  clear h hg
  go_enter Try.func85, Try.ntmps85
  go_wp2_with fail
  refine CW.out.mono ?_
  rintro e w1 ⟨rfl, rfl⟩
  go_wp2_with fail
  go_ret
  have us := updCell w1 g 0 (.int .i64 n)
  refine ⟨b, n, x, rfl, by simpa using HG.out.set_ 0 (.int .i64 n), H.out.upd us (fun k _ e => by subst e; exact ⟨hpg, fun r => hgo (.inr (.inl r)), fun r => hgo (.inr (.inr r))⟩), Keeps.refl, us.mono (fun _ _ q => .inr q), fun q => ?_, fun q => ?_⟩
  · cases o with
    | none => rw [← Hb.out] at q; cases q
    | some m => exact ⟨m, psOf x, rfl, Hn.out, rfl, rfl⟩
  · cases o with
    | none => rfl
    | some m => rw [← Hb.out] at q; cases q
theorem varF_right (s : Bs) (c : Nat) (l : Bs) : (varF s c l false).2 = l := by
  unfold varF
  split
  · split
    · unfold lookF
      split
      · rfl
      · split
        · rename_i h; cases h
        · rfl
    · rfl
  · rfl
set_option maxRecDepth 100000 in
set_option maxHeartbeats 4000000 in
theorem rPatternVar1_c {w : World} {p g bx : Nat} {A : Option Addr} {c : Nat} {L : List Tok} {x : St} (h : RdS w p A c L x) (hl : x.left = false) (hv : x.vs.length ≤ 100000) (s : Bs) (hs : s.length ≤ 1000000) (k0 : Int) (hg : Blk w g 3 #[.int .i64 k0]) (hx : Blk w bx 53 #[.pointer (some ⟨p, 0, none⟩)]) (hgo : ¬ x.own p g) (hxo : ¬ x.own p bx) (hpg : p < g) :
    Calls Try.prog 84 #[.string (kstr s), .pointer (some ⟨bx, 0, none⟩), .pointer (some ⟨g, 0, none⟩)] w (ClsI w p g 3 A c L x (if 0 < (varF s 63 (psOf x).vs false).1 then some ((varF s 63 (psOf x).vs false).1, psOf x) else none) (fun (v : Nat) k => k = (v : Int))) := by
  have CV := Lib.hid (fun w' (hy : RdS w' p A c L x) => rVarV_c hy hv s 63 hs)
  rw [show ((63 : UInt8).toNat : Int) = 63 from rfl, show (63 : UInt8).toNat = 63 from rfl, hl, varF_right] at CV
  rw [show (psOf x).vs = x.vs from rfl]
  obtain ⟨V, HV⟩ := nm (varF s 63 x.vs false).1
  rw [HV.out] at CV ⊢
  obtain ⟨str, Hstr⟩ := nm (kstr s)
  rw [Hstr.out] at CV ⊢
  have d0 := hx.cell 0
  have HX := Lib.hid hx
  have HG := Lib.hid hg
  obtain ⟨wD, HwD⟩ := nm w.drew
  have uD : Upd Non w wD := by rw [← HwD.out]; exact Upd.refl.drew
  have C1 := Lib.hid (CV.out wD (h.non uD))
  clear h hg hx
  go_enter Try.func84, Try.ntmps84
  go_upto_region 1 with fail
  refine wp_region_held_drew (S := fun w' => w'.cell? ⟨bx, 0, none⟩ = some (.pointer (some ⟨p, 0, none⟩))) (by kernel_rfl) (by rw [HwD.out]; exact cell_upd d0 uD (fun f => f)) (fun hHeld => ?_)
  rw [HwD.out] at hHeld ⊢
  refine wpAnyH_take (i := 0) (v := ?_) rfl (by kernel_rfl) (by kernel_rfl) (by kernel_rfl) (fun _ _ _ h => h) (Or.inl ⟨by rfl, ?_⟩) (by assumption) ?_
  rotate_left
  · intro w hSw; (try dsimp only at hSw); go_simp; try with_reducible rfl
  try simp only [put_y]
  try simp only [Act.put]
  try simp only [put_z]
  refine wpAnyH_take (i := 1) (v := ?_) rfl (by kernel_rfl) (by kernel_rfl) (by kernel_rfl) (fun _ _ _ h => h) (Or.inl ⟨by rfl, ?_⟩) (by assumption) ?_
  rotate_left
  · intro w hSw; (try dsimp only at hSw); go_simp; try with_reducible rfl
  try simp only [put_y]
  try simp only [Act.put]
  try simp only [put_z]
  refine wpAnyH_take (i := 2) (v := ?_) rfl (by kernel_rfl) (by kernel_rfl) (by kernel_rfl) (fun _ _ _ h => h) (Or.inl ⟨by rfl, ?_⟩) (by assumption) ?_
  rotate_left
  · intro w hSw; (try dsimp only at hSw); go_simp; try with_reducible rfl
  try simp only [put_y]
  try simp only [Act.put]
  try simp only [put_z]
  refine wpAnyH_take (i := 3) (v := ?_) rfl (by kernel_rfl) (by kernel_rfl) (by kernel_rfl) (fun _ _ _ h => h) (Or.inl ⟨by rfl, ?_⟩) (by assumption) ?_
  rotate_left
  · intro w hSw; (try dsimp only at hSw); go_simp; try with_reducible rfl
  try simp only [put_y]
  try simp only [Act.put]
  try simp only [put_z]
  refine wpAnyH_take (i := 4) (v := ?_) rfl (by kernel_rfl) (by kernel_rfl) (by kernel_rfl) (fun _ _ _ h => h) (Or.inl ⟨by rfl, ?_⟩) (by assumption) ?_
  rotate_left
  · intro w hSw; (try dsimp only at hSw); go_simp; try with_reducible rfl
  try simp only [put_y]
  try simp only [Act.put]
  try simp only [put_z]
  refine wpAnyH_ready (rs := [5]) (by kernel_rfl) (by simp) ?_
  refine AllReadyH.cons rfl (fun K hK => ?_) AllReadyH.nil
  go_simp
  refine C1.out.mono ?_
  rintro e w2 ⟨rfl, y, hy, hy1, hy2, hk, hu⟩
  go_wp2_with fail
  have d2 := cell_upd (cell_upd d0 uD (fun f => f)) hu hxo
  refine hK.out _ _ ?_ (fun hHeld => ?_)
  · exact d2
  clear hK K
  try simp only [put_y]
  try simp only [Act.put]
  try simp only [put_z]
  have hg2 := (HG.out.upd uD (fun f => f)).upd hu hgo
  have y0 := hg2.cell 0
  have f0 := hg2.frozen 0
  have HY := Lib.hid hy
  have HK := Lib.hid hk
  have HU := Lib.hid hu
  have HG2 := Lib.hid hg2
  have H1 := Lib.hid hy1
  have H2 := Lib.hid hy2
  clear hy hk hu hg2 hy1 hy2
  refine wpAnyH_ready (rs := [6]) (by kernel_rfl) (by simp) ?_
  refine AllReadyH.cons rfl (fun K hK => ?_) AllReadyH.nil
  go_simp
  have us := updCell w2 g 0 (.int .i64 (V : Int))
  have hb3 : Blk (w2.setCell ⟨g, 0, none⟩ (.int .i64 (V : Int))) g 3 #[.int .i64 (V : Int)] := by simpa using HG2.out.set_ 0 (.int .i64 (V : Int))
  have hgb : bx ≠ g := (((HX.out.upd uD (fun f => f)).upd HU.out hxo).ne_ HG2.out (by decide))
  refine hK.out _ _ ?_ (fun hHeld => ?_)
  · exact cell_upd d2 us hgb
  clear hK K
  try simp only [put_y]
  try simp only [Act.put]
  try simp only [put_z]
  refine wpAnyH_done (by kernel_rfl) ?_ _
  have y1 := hb3.cell 0
  have HB3 := Lib.hid hb3
  clear hb3 y0 f0 d2 d0 hHeld
  have hyo : ¬ y.own p g := fun q => by
    rcases HK.out.own g q with r | r
    · exact hgo r
    · have := HG.out.lt; have := uD.size; omega
  have HYO := Lib.hid hyo
  clear hyo
  by_cases hp : 0 < V
  · have fp : decide ((0 : Int) < (V : Int)) = true := decide_eq_true (by omega)
    go_wp2_with fail
    go_ret
    refine ⟨_, V, y, rfl, HB3.out, HY.out.upd us (fun k _ e => by subst e; exact ⟨hpg, fun r => HYO.out (.inr (.inl r)), fun r => HYO.out (.inr (.inr r))⟩), ⟨HK.out.i, HK.out.why, HK.out.ea, HK.out.left, fun j hj => (HK.out.own j hj).imp_right (fun q => Nat.le_trans uD.size q)⟩, ((uD.mono (fun _ _ f => f.elim)).trans HU.out (fun _ _ q => .inl q)).trans us (fun _ _ q => .inr q), fun q => ?_, fun q => ?_⟩
    · exact ⟨V, psOf x, rfl, rfl, H1.out, H2.out⟩
    · cases q
  · have fp : decide ((0 : Int) < (V : Int)) = false := decide_eq_false (by omega)
    have HP := Lib.hid hp
    clear hp
    go_wp2_with fail
    go_ret
    refine ⟨_, V, y, rfl, HB3.out, HY.out.upd us (fun k _ e => by subst e; exact ⟨hpg, fun r => HYO.out (.inr (.inl r)), fun r => HYO.out (.inr (.inr r))⟩), ⟨HK.out.i, HK.out.why, HK.out.ea, HK.out.left, fun j hj => (HK.out.own j hj).imp_right (fun q => Nat.le_trans uD.size q)⟩, ((uD.mono (fun _ _ f => f.elim)).trans HU.out (fun _ _ q => .inl q)).trans us (fun _ _ q => .inr q), fun q => ?_, fun q => ?_⟩
    · cases q
    · rfl
/-- What a function that reads an int hands back. -/
def IntP {α : Type} (T : List (Bs × Nat)) (w : World) (p : Nat) (A : Option Addr) (c : Nat) (L : List Tok) (x : St) (r : Except Er (α × PS)) (P : α → Int → Prop) (e : Ending) (w' : World) : Prop :=
  ∃ (k : Int) (y : St), e = .returned (.int .i64 k) ∧ RdS w' p A c L y ∧ Good T y ∧ y.left = x.left ∧ (∀ k, y.own p k → x.own p k ∨ w.heap.size ≤ k) ∧ Upd (x.own p) w w' ∧ ResS x y r (fun v => P v k ∧ x.i + 1 ≤ y.i)
theorem hcfN : ∀ (args : Array Value) (w : World), (callFunc 85 args).run Try.prog w = .ok (.enter 85 args) w := fun args w => by
  simp [callFunc, Try.func85, Try.f85]
theorem hcfV : ∀ (args : Array Value) (w : World), (callFunc 84 args).run Try.prog w = .ok (.enter 84 args) w := fun args w => by
  simp [callFunc, Try.func84, Try.f84]
set_option maxRecDepth 100000 in
set_option maxHeartbeats 4000000 in
theorem rNumber_c {L : List Tok} {T : List (Bs × Nat)} {fin : Nat} (hL : LOk L T fin) {w : World} {p : Nat} {A : Option Addr} {c : Nat} {x : St} (h : RdS w p A c L x) (hx : Good T x) :
    Calls Try.prog 70 #[.pointer (some ⟨p, 0, none⟩)] w (IntP T w p A c L x (numbF T fin (psOf x)) (fun v k => v = k)) := by
  obtain ⟨W1, HW1⟩ := nm (w.alloc (.cells #[.int .i64 0] 2))
  have u1 : Upd Non w W1 := by rw [← HW1.out]; exact Upd.refl.alloc _
  have b1 : Blk W1 w.heap.size 2 #[.int .i64 0] := by rw [← HW1.out]; exact Blk.new _ _ _
  have hpw : p < w.heap.size := h.blk.lt
  have hown : ∀ j, x.own p j → j < w.heap.size := fun j hj => h.lt hj
  have y0 := b1.cell 0
  have f0 := b1.frozen 0
  obtain ⟨W2, HW2⟩ := nm (W1.setCell ⟨w.heap.size, 0, none⟩ (.int .i64 0))
  have b2 : Blk W2 w.heap.size 2 #[.int .i64 0] := by rw [← HW2.out]; simpa using b1.set_ 0 (.int .i64 0)
  have u2 : Upd Non w W2 := u1.trans (by rw [← HW2.out]; exact updCell _ _ _ _) (fun i hi e => by omega)
  have e1 := HW1.out
  have e2 := HW2.out
  have s2 := u2.size
  have h1 := h.non u2
  have CW := Lib.hid (rWordG_c hL h1 hx 85 #[.pointer (some ⟨w.heap.size, 0, none⟩)] hcfN (fun k : Int => #[.int .i64 k]) 0 b2 hpw (fun s y => (decF s).map fun n => (n, y)) (fun v k => v = k)
    (fun s ps v y q => by
      cases hd : decF s with
      | none => rw [hd] at q; cases q
      | some n => rw [hd] at q; simp only [Option.map_some] at q; injection q with q; injection q with _ q; subst q; exact ⟨Nat.le_succ _, Nat.le_succ _⟩)
    (fun s w1 _ hs _ u01 => rNumber1_c (h1.non u01) s (by omega) 0 (b2.upd u01 (fun f => f)) (fun q => by have := hown _ q; omega) hpw))
  have HU2 := Lib.hid u2
  clear h h1 b1 b2 u1 u2
  go_enter Try.func70, Try.ntmps70
  go_wp2_with fail
  refine CW.out.mono ?_
  rintro e w3 hw3
  have HW3 := Lib.hid hw3
  clear hw3 CW y0 f0 e1 e2
  obtain ⟨k, y, ts, tp, ev, _, hb3, hy3, hg3, hl3, ho3, hu3, hr3⟩ := HW3.out
  subst ev
  have y1 := hb3.cell 0
  have HY := Lib.hid hy3
  have HG := Lib.hid hg3
  have HL := Lib.hid hl3
  have HO := Lib.hid ho3
  have HU := Lib.hid hu3
  have HR := Lib.hid hr3
  clear hb3 hy3 hg3 hl3 ho3 hu3 hr3 HW3
  go_wp2_with fail
  go_ret
  exact ⟨k, y, rfl, HY.out, HG.out, HL.out, fun j hj => (HO.out j hj).imp_right (fun q => by omega), (HU2.out.mono (fun _ _ f => f.elim)).trans HU.out (fun j hj q => by rcases q with q | q; exact q; omega), HR.out⟩
set_option maxRecDepth 100000 in
set_option maxHeartbeats 4000000 in
theorem rPatternVar_c {L : List Tok} {T : List (Bs × Nat)} {fin : Nat} (hL : LOk L T fin) {w : World} {p : Nat} {A : Option Addr} {c : Nat} {x : St} (h : RdS w p A c L x) (hx : Good T x) (hlf : x.left = false) :
    Calls Try.prog 69 #[.pointer (some ⟨p, 0, none⟩)] w (IntP T w p A c L x (pvarF T fin (psOf x)) (fun (v : Nat) k => k = (v : Int))) := by
  obtain ⟨W0, HW0⟩ := nm (w.alloc (.cells #[.pointer (some ⟨p, 0, none⟩)] 53))
  have u0 : Upd Non w W0 := by rw [← HW0.out]; exact Upd.refl.alloc _
  have b0 : Blk W0 w.heap.size 53 #[.pointer (some ⟨p, 0, none⟩)] := by rw [← HW0.out]; exact Blk.new _ _ _
  have s0 : W0.heap.size = w.heap.size + 1 := by rw [← HW0.out]; simp
  obtain ⟨W1, HW1⟩ := nm (W0.alloc (.cells #[.int .i64 0] 3))
  have u1 : Upd Non W0 W1 := by rw [← HW1.out]; exact Upd.refl.alloc _
  have b1 : Blk W1 (w.heap.size + 1) 3 #[.int .i64 0] := by rw [← HW1.out, ← s0]; exact Blk.new _ _ _
  have s1 : W1.heap.size = w.heap.size + 2 := by rw [← HW1.out]; simp [s0]
  have hpw : p < w.heap.size := h.blk.lt
  have hown : ∀ j, x.own p j → j < w.heap.size := fun j hj => h.lt hj
  have y0 := b1.cell 0
  have f0 := b1.frozen 0
  obtain ⟨W2, HW2⟩ := nm (W1.setCell ⟨w.heap.size + 1, 0, none⟩ (.int .i64 0))
  have b2 : Blk W2 (w.heap.size + 1) 3 #[.int .i64 0] := by rw [← HW2.out]; simpa using b1.set_ 0 (.int .i64 0)
  have u2 : Upd (· = w.heap.size + 1) W1 W2 := by rw [← HW2.out]; exact updCell _ _ _ _
  have bb : Blk W2 w.heap.size 53 #[.pointer (some ⟨p, 0, none⟩)] := (b0.upd u1 (fun f => f)).upd u2 (by omega)
  have u2 : Upd Non w W2 := (u0.then_non u1).trans u2 (fun i hi e => by omega)
  have e0 := HW0.out
  have e1 := HW1.out
  have e2 := HW2.out
  have s2 := u2.size
  have h1 := h.non u2
  have d0 := bb.cell 0
  have CW : Hid (x.why = 0 → x.vs.length ≤ 100000) := fun q => by have := hx.2 q; have := hx.1; have := hL.lt; have := hL.len; omega
  have CW := Lib.hid (rWordG_c hL h1 hx 84 #[.pointer (some ⟨w.heap.size, 0, none⟩), .pointer (some ⟨w.heap.size + 1, 0, none⟩)] hcfV (fun k : Int => #[.int .i64 k]) 0 b2 (by omega) (fun s y => if 0 < (varF s 63 y.vs false).1 then some ((varF s 63 y.vs false).1, y) else none) (fun (v : Nat) k => k = (v : Int))
    (fun s ps v y q => by
      split at q
      · injection q with q; injection q with _ q; subst q; exact ⟨Nat.le_succ _, Nat.le_succ _⟩
      · cases q)
    (fun s w1 _ hs h00 u01 => rPatternVar1_c (h1.non u01) hlf (CW.out h00) s (by omega) 0 (b2.upd u01 (fun f => f)) (bb.upd u01 (fun f => f)) (fun q => by have := hown _ q; omega) (fun q => by have := hown _ q; omega) (by omega)))
  have HU2 := Lib.hid u2
  clear h h1 b0 b1 b2 bb u0 u1 u2
  go_enter Try.func69, Try.ntmps69
  go_wp2_with fail
  refine CW.out.mono ?_
  rintro e w3 hw3
  have HW3 := Lib.hid hw3
  clear hw3 CW y0 f0 e0 e1 e2 d0
  obtain ⟨k, y, ts, tp, ev, _, hb3, hy3, hg3, hl3, ho3, hu3, hr3⟩ := HW3.out
  subst ev
  have y1 := hb3.cell 0
  have HY := Lib.hid hy3
  have HG := Lib.hid hg3
  have HL := Lib.hid hl3
  have HO := Lib.hid ho3
  have HU := Lib.hid hu3
  have HR := Lib.hid hr3
  clear hb3 hy3 hg3 hl3 ho3 hu3 hr3 HW3
  go_wp2_with fail
  go_ret
  exact ⟨k, y, rfl, HY.out, HG.out, HL.out, fun j hj => (HO.out j hj).imp_right (fun q => by omega), (HU2.out.mono (fun _ _ f => f.elim)).trans HU.out (fun j hj q => by rcases q with q | q; exact q; omega), HR.out⟩
theorem lookF_right (l : Bs) (c : UInt8) : (lookF l c false).2 = l := by
  unfold lookF
  split
  · rfl
  · split
    · rename_i h; cases h
    · rfl
def ivF (s : Bs) (x : PS) : Option (Nat × PS) := match s with
  | [c] => if isLw c = true ∧ 0 < (lookF x.ms c false).1 then some ((lookF x.ms c false).1, x) else none
  | _ => none
theorem ivF_none {s : Bs} (h : s.length ≠ 1) (x : PS) : ivF s x = none := by
  unfold ivF
  split
  · simp at h
  · rfl
set_option maxRecDepth 100000 in
set_option maxHeartbeats 4000000 in
theorem rImmVar1_c {w : World} {p g bx : Nat} {A : Option Addr} {c : Nat} {L : List Tok} {x : St} (h : RdS w p A c L x) (hv : x.ms.length ≤ 100000) (s : Bs) (hs : s.length ≤ 1000000) (hg : Blk w g 3 #[.int .i64 0]) (hx : Blk w bx 53 #[.pointer (some ⟨p, 0, none⟩)]) (hgo : ¬ x.own p g) (hxo : ¬ x.own p bx) (hpg : p < g) :
    Calls Try.prog 83 #[.string (kstr s), .pointer (some ⟨bx, 0, none⟩), .pointer (some ⟨g, 0, none⟩)] w (ClsI w p g 3 A c L x (ivF s (psOf x)) (fun (v : Nat) k => k = (v : Int))) := by
  have hz : (kstr s).size = s.length := kstr_size s
  have d0 := hx.cell 0
  have y0 := hg.cell 0
  have f0 := hg.frozen 0
  have HX := Lib.hid hx
  have HG := Lib.hid hg
  have H := Lib.hid h
  have fz : decide ((0 : Int) < 0) = false := by decide
  clear h hx hg
  by_cases h1 : s.length = 1
  · match s, h1 with
    | [ch], _ =>
      have i0 := fun W => run_at_str hz (show 0 < 1 by omega) W
      rw [kx_kstr, show ([ch] : Bs).getD 0 0 = ch from rfl, show ((0 : Nat) : Int) = 0 from rfl] at i0
      rw [show ([ch] : Bs).length = 1 from rfl] at hz
      have HV : Hid (ivF [ch] (psOf x) = if isLw ch = true ∧ 0 < (lookF x.ms ch false).1 then some ((lookF x.ms ch false).1, psOf x) else none) := rfl
      obtain ⟨str, Hstr⟩ := nm (kstr [ch])
      rw [Hstr.out] at hz i0 ⊢
      rw [HV.out]
      have CL := Lib.hid (rIsLower_c ch w)
      obtain ⟨lw, Hlw⟩ := nm (isLw ch)
      rw [Hlw.out] at CL ⊢
      cases lw with
      | false =>
        rw [if_neg (fun q => by cases q.1)]
        clear HV
        go_enter Try.func83, Try.ntmps83
        go_wp2_with fail
        refine CL.out.mono ?_
        rintro e w1 ⟨rfl, rfl⟩
        go_wp2_with fail
        go_ret
        exact ⟨false, 0, x, rfl, HG.out, H.out, Keeps.refl, Upd.refl, (fun q => by cases q), (fun _ => rfl)⟩
      | true =>
        obtain ⟨V, HVV⟩ := nm (lookF x.ms ch false).1
        have hnv := lookF_right x.ms ch
        obtain ⟨wD, HwD⟩ := nm w.drew
        have uD : Upd Non w wD := by rw [← HwD.out]; exact Upd.refl.drew
        have C1 := Lib.hid (rLookM_c (H.out.non uD) hv ch false)
        rw [HVV.out, hnv] at C1
        rw [HVV.out]
        obtain ⟨o, Ho⟩ := nm (if true = true ∧ 0 < V then some (V, psOf x) else none)
        rw [Ho.out]
        clear HV hnv
        go_enter Try.func83, Try.ntmps83
        go_wp2_with fail
        refine CL.out.mono ?_
        rintro e w1 ⟨rfl, rfl⟩
        go_upto_region 2 with fail
        refine wp_region_held_drew (S := fun w' => w'.cell? ⟨bx, 0, none⟩ = some (.pointer (some ⟨p, 0, none⟩))) (by kernel_rfl) (by rw [HwD.out]; exact cell_upd d0 uD (fun f => f)) (fun hHeld => ?_)
        rw [HwD.out] at hHeld ⊢
        refine wpAnyH_take (i := 0) (v := ?_) rfl (by kernel_rfl) (by kernel_rfl) (by kernel_rfl) (fun _ _ _ h => h) (Or.inl ⟨by rfl, ?_⟩) (by assumption) ?_
        rotate_left
        · intro w hSw; (try dsimp only at hSw); go_simp; try with_reducible rfl
        try simp only [put_y]
        try simp only [Act.put]
        try simp only [put_z]
        refine wpAnyH_take (i := 1) (v := ?_) rfl (by kernel_rfl) (by kernel_rfl) (by kernel_rfl) (fun _ _ _ h => h) (Or.inl ⟨by rfl, ?_⟩) (by assumption) ?_
        rotate_left
        · intro w hSw; (try dsimp only at hSw); go_simp; try with_reducible rfl
        try simp only [put_y]
        try simp only [Act.put]
        try simp only [put_z]
        refine wpAnyH_take (i := 2) (v := ?_) rfl (by kernel_rfl) (by kernel_rfl) (by kernel_rfl) (fun _ _ _ h => h) (Or.inl ⟨by rfl, ?_⟩) (by assumption) ?_
        rotate_left
        · intro w hSw; (try dsimp only at hSw); go_simp; try with_reducible rfl
        try simp only [put_y]
        try simp only [Act.put]
        try simp only [put_z]
        refine wpAnyH_take (i := 3) (v := ?_) rfl (by kernel_rfl) (by kernel_rfl) (by kernel_rfl) (fun _ _ _ h => h) (Or.inl ⟨by rfl, ?_⟩) (by assumption) ?_
        rotate_left
        · intro w hSw; (try dsimp only at hSw); go_simp; try with_reducible rfl
        try simp only [put_y]
        try simp only [Act.put]
        try simp only [put_z]
        refine wpAnyH_take (i := 4) (v := ?_) rfl (by kernel_rfl) (by kernel_rfl) (by kernel_rfl) (fun _ _ _ h => h) (Or.inl ⟨by rfl, ?_⟩) (by assumption) ?_
        rotate_left
        · intro w hSw; (try dsimp only at hSw); go_simp; try with_reducible rfl
        try simp only [put_y]
        try simp only [Act.put]
        try simp only [put_z]
        refine wpAnyH_ready (rs := [5]) (by kernel_rfl) (by simp) ?_
        refine AllReadyH.cons rfl (fun K hK => ?_) AllReadyH.nil
        go_simp
        refine C1.out.mono ?_
        rintro e w2 ⟨rfl, y, hy, hy1, hy2, hk, hu⟩
        go_wp2_with fail
        have d2 := cell_upd (cell_upd d0 uD (fun f => f)) hu hxo
        refine hK.out _ _ ?_ (fun hHeld => ?_)
        · exact d2
        clear hK K
        try simp only [put_y]
        try simp only [Act.put]
        try simp only [put_z]
        have hg2 := (HG.out.upd uD (fun f => f)).upd hu hgo
        have k0 := hg2.cell 0
        have f2 := hg2.frozen 0
        have HY := Lib.hid hy
        have HK := Lib.hid hk
        have HU := Lib.hid hu
        have HG2 := Lib.hid hg2
        have H1 := Lib.hid hy1
        have H2 := Lib.hid hy2
        clear hy hk hu hg2 hy1 hy2 y0 f0
        refine wpAnyH_ready (rs := [6]) (by kernel_rfl) (by simp) ?_
        refine AllReadyH.cons rfl (fun K hK => ?_) AllReadyH.nil
        go_simp
        have us := updCell w2 g 0 (.int .i64 (V : Int))
        have hb3 : Blk (w2.setCell ⟨g, 0, none⟩ (.int .i64 (V : Int))) g 3 #[.int .i64 (V : Int)] := by simpa using HG2.out.set_ 0 (.int .i64 (V : Int))
        have hgb : bx ≠ g := (((HX.out.upd uD (fun f => f)).upd HU.out hxo).ne_ HG2.out (by decide))
        refine hK.out _ _ ?_ (fun hHeld => ?_)
        · exact cell_upd d2 us hgb
        clear hK K
        try simp only [put_y]
        try simp only [Act.put]
        try simp only [put_z]
        refine wpAnyH_done (by kernel_rfl) ?_ _
        have y1 := hb3.cell 0
        have HB3 := Lib.hid hb3
        clear hb3 k0 f2 d2 d0 hHeld
        have hyo : ¬ y.own p g := fun q => by
          rcases HK.out.own g q with r | r
          · exact hgo r
          · have := HG.out.lt; have := uD.size; omega
        have HYO := Lib.hid hyo
        clear hyo
        by_cases hp : 0 < V
        · have fp : decide ((0 : Int) < (V : Int)) = true := decide_eq_true (by omega)
          go_wp2_with fail
          go_ret
          refine ⟨_, V, y, rfl, HB3.out, HY.out.upd us (fun k _ e => by subst e; exact ⟨hpg, fun r => HYO.out (.inr (.inl r)), fun r => HYO.out (.inr (.inr r))⟩), ⟨HK.out.i, HK.out.why, HK.out.ea, HK.out.left, fun j hj => (HK.out.own j hj).imp_right (fun q => Nat.le_trans uD.size q)⟩, ((uD.mono (fun _ _ f => f.elim)).trans HU.out (fun _ _ q => .inl q)).trans us (fun _ _ q => .inr q), fun q => ?_, fun q => ?_⟩
          · exact ⟨V, psOf x, by rw [← Ho.out, if_pos ⟨trivial, hp⟩], rfl, H2.out, H1.out⟩
          · cases q
        · have fp : decide ((0 : Int) < (V : Int)) = false := decide_eq_false (by omega)
          have HP := Lib.hid hp
          clear hp
          go_wp2_with fail
          go_ret
          refine ⟨false, V, y, by rw [decide_eq_false HP.out]; rfl, HB3.out, HY.out.upd us (fun k _ e => by subst e; exact ⟨hpg, fun r => HYO.out (.inr (.inl r)), fun r => HYO.out (.inr (.inr r))⟩), ⟨HK.out.i, HK.out.why, HK.out.ea, HK.out.left, fun j hj => (HK.out.own j hj).imp_right (fun q => Nat.le_trans uD.size q)⟩, ((uD.mono (fun _ _ f => f.elim)).trans HU.out (fun _ _ q => .inl q)).trans us (fun _ _ q => .inr q), fun q => ?_, fun q => ?_⟩
          · cases q
          · rw [← Ho.out, if_neg (fun q => HP.out q.2)]
  · rw [ivF_none h1]
    have fl : (((s.length : Nat) : Int) == 1) = false := by simp; omega
    obtain ⟨str, Hstr⟩ := nm (kstr s)
    rw [Hstr.out] at hz ⊢
    obtain ⟨n, Hn⟩ := nm s.length
    rw [Hn.out] at hz fl
    have HN := Lib.hid h1
    clear h1
    go_enter Try.func83, Try.ntmps83
    go_wp2_with fail
    go_ret
    exact ⟨false, 0, x, rfl, HG.out, H.out, Keeps.refl, Upd.refl, (fun q => by cases q), (fun _ => rfl)⟩
theorem hcfI : ∀ (args : Array Value) (w : World), (callFunc 83 args).run Try.prog w = .ok (.enter 83 args) w := fun args w => by
  simp [callFunc, Try.func83, Try.f83]
set_option maxRecDepth 100000 in
set_option maxHeartbeats 4000000 in
theorem rImmVar_c {L : List Tok} {T : List (Bs × Nat)} {fin : Nat} (hL : LOk L T fin) {w : World} {p : Nat} {A : Option Addr} {c : Nat} {x : St} (h : RdS w p A c L x) (hx : Good T x) :
    Calls Try.prog 68 #[.pointer (some ⟨p, 0, none⟩)] w (IntP T w p A c L x (ivarF T fin (psOf x)) (fun (v : Nat) k => k = (v : Int))) := by
  obtain ⟨W0, HW0⟩ := nm (w.alloc (.cells #[.pointer (some ⟨p, 0, none⟩)] 53))
  have u0 : Upd Non w W0 := by rw [← HW0.out]; exact Upd.refl.alloc _
  have b0 : Blk W0 w.heap.size 53 #[.pointer (some ⟨p, 0, none⟩)] := by rw [← HW0.out]; exact Blk.new _ _ _
  have s0 : W0.heap.size = w.heap.size + 1 := by rw [← HW0.out]; simp
  obtain ⟨W1, HW1⟩ := nm (W0.alloc (.cells #[.int .i64 0] 3))
  have u1 : Upd Non W0 W1 := by rw [← HW1.out]; exact Upd.refl.alloc _
  have b1 : Blk W1 (w.heap.size + 1) 3 #[.int .i64 0] := by rw [← HW1.out, ← s0]; exact Blk.new _ _ _
  have s1 : W1.heap.size = w.heap.size + 2 := by rw [← HW1.out]; simp [s0]
  have hpw : p < w.heap.size := h.blk.lt
  have hown : ∀ j, x.own p j → j < w.heap.size := fun j hj => h.lt hj
  have y0 := b1.cell 0
  have f0 := b1.frozen 0
  obtain ⟨W2, HW2⟩ := nm (W1.setCell ⟨w.heap.size + 1, 0, none⟩ (.int .i64 0))
  have b2 : Blk W2 (w.heap.size + 1) 3 #[.int .i64 0] := by rw [← HW2.out]; simpa using b1.set_ 0 (.int .i64 0)
  have u2 : Upd (· = w.heap.size + 1) W1 W2 := by rw [← HW2.out]; exact updCell _ _ _ _
  have bb : Blk W2 w.heap.size 53 #[.pointer (some ⟨p, 0, none⟩)] := (b0.upd u1 (fun f => f)).upd u2 (by omega)
  have u2 : Upd Non w W2 := (u0.then_non u1).trans u2 (fun i hi e => by omega)
  have e0 := HW0.out
  have e1 := HW1.out
  have e2 := HW2.out
  have s2 := u2.size
  have h1 := h.non u2
  have d0 := bb.cell 0
  have CW : Hid (x.why = 0 → x.ms.length ≤ 100000) := fun q => by have := hx.2 q; have := hx.1; have := hL.lt; have := hL.len; omega
  have CW := Lib.hid (rWordG_c hL h1 hx 83 #[.pointer (some ⟨w.heap.size, 0, none⟩), .pointer (some ⟨w.heap.size + 1, 0, none⟩)] hcfI (fun k : Int => #[.int .i64 k]) 0 b2 (by omega) ivF (fun (v : Nat) k => k = (v : Int))
    (fun s ps v y q => by
      unfold ivF at q
      split at q
      · split at q
        · injection q with q; injection q with _ q; subst q; exact ⟨Nat.le_succ _, Nat.le_succ _⟩
        · cases q
      · cases q)
    (fun s w1 _ hs h00 u01 => rImmVar1_c (h1.non u01) (CW.out h00) s (by omega) (b2.upd u01 (fun f => f)) (bb.upd u01 (fun f => f)) (fun q => by have := hown _ q; omega) (fun q => by have := hown _ q; omega) (by omega)))
  have HU2 := Lib.hid u2
  clear h h1 b0 b1 b2 bb u0 u1 u2
  go_enter Try.func68, Try.ntmps68
  go_wp2_with fail
  refine CW.out.mono ?_
  rintro e w3 hw3
  have HW3 := Lib.hid hw3
  clear hw3 CW y0 f0 e0 e1 e2 d0
  obtain ⟨k, y, ts, tp, ev, _, hb3, hy3, hg3, hl3, ho3, hu3, hr3⟩ := HW3.out
  subst ev
  have y1 := hb3.cell 0
  have HY := Lib.hid hy3
  have HG := Lib.hid hg3
  have HL := Lib.hid hl3
  have HO := Lib.hid ho3
  have HU := Lib.hid hu3
  have HR := Lib.hid hr3
  clear hb3 hy3 hg3 hl3 ho3 hu3 hr3 HW3
  go_wp2_with fail
  go_ret
  exact ⟨k, y, rfl, HY.out, HG.out, HL.out, fun j hj => (HO.out j hj).imp_right (fun q => by omega), (HU2.out.mono (fun _ _ f => f.elim)).trans HU.out (fun j hj q => by rcases q with q | q; exact q; omega), HR.out⟩
end Go.Proofs.Ytblkgjdhaibhgaa
