/-
  What the reader's expect and word do.
-/
import Derived.Test.YtblkgjdhaibhgaaRdrC
namespace Go.Proofs.Ytblkgjdhaibhgaa
open Go.RowKit

def St.exp (x : St) (L : List Tok) (s : Bs) : St := bif (x.why == 0 && isT L x.i s) then { x with i := x.i + 1 } else x.fail 2 (posT L x.i)
theorem rExpect_c {w : World} {p : Nat} {A : Option Addr} {c : Nat} {L : List Tok} {x : St} (h : RdS w p A c L x) (hi : x.i < L.length) (hL : L.length ≤ 100000) (s : Bs) :
    Calls Try.prog 41 #[.pointer (some ⟨p, 0, none⟩), .string (kstr s)] w fun e w' => e = .returned (.tuple #[]) ∧ RdS w' p A c L (x.exp L s) ∧ Upd (· = p) w w' := by
  have C := Lib.hid (rIs_c h hi s)
  have H := Lib.hid h
  have HE : Hid (x.exp L s = bif (x.why == 0 && isT L x.i s) then { x with i := x.i + 1 } else x.fail 2 (posT L x.i)) := rfl
  obtain ⟨b, Hb⟩ := nm (x.why == 0 && isT L x.i s)
  rw [Hb.out] at C HE
  obtain ⟨i, Hi⟩ := nm x.i
  have hi' := hi
  rw [Hi.out] at hi'
  go_enter Try.func41, Try.ntmps41
  cases b with
  | true =>
    go_wp2_with fail
    refine C.out.mono ?_
    rintro e w1 ⟨rfl, hu⟩
    have h1 := H.out.non hu
    obtain ⟨_, c1, _⟩ := h1.cells
    rw [Hi.out] at c1
    have hf := h1.blk.frozen
    have H1 := Lib.hid h1
    clear h1 C h
    go_wp2_with fail
    go_end0
    refine ⟨rfl, ?_, (hu.mono (T := (· = p)) (fun _ _ f => f.elim)).trans (updCell _ _ _ _) (fun _ _ h => h)⟩
    rw [HE.out]
    refine H1.out.set (updCell _ _ _ _) ?_ rfl rfl rfl rfl rfl rfl
    have := H1.out.blk.set_ 1 (.int .i64 ((i : Int) + 1))
    simpa [rcells, Hi.out] using this
  | false =>
    go_wp2_with fail
    refine C.out.mono ?_
    rintro e w1 ⟨rfl, hu⟩
    have C2 := Lib.hid (rSyntaxError_c (H.out.non hu) hi)
    clear C h
    go_wp2_with fail
    refine C2.out.mono ?_
    rintro e w2 ⟨rfl, h2, hu2⟩
    go_wp2_with fail
    refine bodyPost_ret (results_none rfl _ _ _) rfl ?_
    refine ⟨rfl, ?_, (hu.mono (T := (· = p)) (fun _ _ f => f.elim)).trans hu2 (fun _ _ h => h)⟩
    rw [HE.out]
    exact h2

/-- The three cells of a token, stored. -/
def set3 (w : World) (g : Nat) (a b c : Value) : World := ((w.setCell ⟨g, 0, none⟩ a).setCell ⟨g, 1, none⟩ b).setCell ⟨g, 2, none⟩ c
theorem set3_eq (w : World) (g : Nat) (a b c : Value) : ((w.setCell ⟨g, 0, none⟩ a).setCell ⟨g, 1, none⟩ b).setCell ⟨g, 2, none⟩ c = set3 w g a b c := rfl
theorem set3_blk {w : World} {g : Nat} {t : TypeId} {x0 x1 x2 : Value} (h : Blk w g t #[x0, x1, x2]) (a b c : Value) : Blk (set3 w g a b c) g t #[a, b, c] := by
  have := ((h.set_ 0 a).set_ 1 b).set_ 2 c
  simpa [set3] using this
theorem set3_upd (w : World) (g : Nat) (a b c : Value) : Upd (· = g) w (set3 w g a b c) :=
  ((updCell _ _ _ _).trans (updCell _ _ _ _) (fun _ _ h => h)).trans (updCell _ _ _ _) (fun _ _ h => h)
def tokVal (s : Bs) (pos : Nat) : Value := .agg #[.string (kstr s), .int .i64 pos, .bool false]
/-- May the reader take token i as a word? -/
def wordOk (L : List Tok) (x : St) : Bool := match L[x.i]? with | some t => x.why == 0 && (!t.bad && !isPn (t.s.headD 0)) | none => false
/-- What word hands back: the token that f took, or an error at it. -/
def WordP (w : World) (p : Nat) (A : Option Addr) (c : Nat) (L : List Tok) (x : St) (t : Tok) (Q : Bool → St → World → World → Prop) (e : Ending) (w' : World) : Prop :=
  (wordOk L x = true ∧ ∃ bb x2 w1 w2, Upd Non w w1 ∧ Q bb x2 w1 w2 ∧ x2.i = x.i ∧ x2.why = 0 ∧ Upd (fun k => k < w.heap.size) w1 w2 ∧ Upd (fun k => k = p ∨ k = w.heap.size) w2 w' ∧ e = .returned (bif bb then tokVal t.s t.pos else tokVal [] 0) ∧ RdS w' p A c L (bif bb then { x2 with i := x.i + 1 } else x2.fail 2 (posT L x.i))) ∨
    (wordOk L x = false ∧ e = .returned (tokVal [] 0) ∧ RdS w' p A c L (x.fail 2 (posT L x.i)) ∧ Upd (· = p) w w')
set_option maxRecDepth 100000 in
set_option maxHeartbeats 4000000 in
theorem rWord_c {w : World} {p : Nat} {A : Option Addr} {c : Nat} {L : List Tok} {x : St} (h : RdS w p A c L x) (hi : x.i < L.length) (hL : L.length ≤ 100000) (hne : L[x.i].bad = false → L[x.i].s ≠ []) (f : FuncId) (cap : Array Value) (hcf : ∀ (args : Array Value) (w : World), (callFunc f args).run Try.prog w = .ok (.enter f args) w) (Q : Bool → St → World → World → Prop)
    (HF : wordOk L x = true → ∀ w1, Upd Non w w1 → Calls Try.prog f (#[.string (kstr L[x.i].s)] ++ cap) w1 fun e w2 => ∃ bb x2, e = .returned (.bool bb) ∧ RdS w2 p A c L x2 ∧ x2.i = x.i ∧ x2.why = 0 ∧ Upd (fun k => k < w.heap.size) w1 w2 ∧ (∀ k, x2.own p k → x.own p k ∨ w1.heap.size ≤ k) ∧ Q bb x2 w1 w2) :
    Calls Try.prog 40 #[.pointer (some ⟨p, 0, none⟩), .func (.func f) #[] cap] w (WordP w p A c L x L[x.i] Q) := by
  have HW : Hid (wordOk L x = (x.why == 0 && (!L[x.i].bad && !isPn (L[x.i].s.headD 0)))) := by show _ = _; unfold wordOk; rw [List.getElem?_eq_getElem hi]
  have hpt := posT_eq hi
  obtain ⟨b, o, rfl, hF, hbw, t0, t1, t2⟩ := h.tok.at_ hi
  obtain ⟨c0, c1, c2, c3, c4, c5, c6⟩ := h.cells
  obtain ⟨W1, HW1⟩ := nm (w.alloc (.cells #[.string ⟨#[]⟩, .int .i64 0, .bool false] 60))
  have u1 : Upd Non w W1 := by rw [← HW1.out]; exact Upd.refl.alloc _
  have b1 : Blk W1 w.heap.size 60 #[.string ⟨#[]⟩, .int .i64 0, .bool false] := by rw [← HW1.out]; exact Blk.new _ _ _
  have s1 : W1.heap.size = w.heap.size + 1 := by rw [← HW1.out]; simp
  have e1 := HW1.out
  have hle := h.le
  have HI : Hid (x.i < L.length) := hi
  have hpw : p < w.heap.size := h.blk.lt
  have H := Lib.hid h
  have HFx := Lib.hid HF
  obtain ⟨R, HR⟩ := nm (wordOk L x)
  rw [HR.out] at HW HFx
  obtain ⟨n, Hn⟩ := nm L.length
  rw [Hn.out] at c0 hi hle
  obtain ⟨i, Hi⟩ := nm x.i
  rw [Hi.out] at c1 hi
  have t0' : w.cell? ⟨b, o + i * 3, none⟩ = some (.string (kstr L[x.i].s)) := by rw [← Hi.out]; exact t0
  have t1' : w.cell? ⟨b, o + i * 3 + 1, none⟩ = some (.int .i64 L[x.i].pos) := by rw [← Hi.out]; exact t1
  have t2' : w.cell? ⟨b, o + i * 3 + 2, none⟩ = some (.bool L[x.i].bad) := by rw [← Hi.out]; exact t2
  generalize L[x.i] = t at *
  obtain ⟨bd, Hbd⟩ := nm t.bad
  rw [Hbd.out] at t2' HW hne
  clear h HF t0 t1 t2 c2 c3 c4 c5 c6
  go_enter Try.func40, Try.ntmps40
  go_upto_region 1 with fail
  obtain ⟨wD, HwD⟩ := nm W1.drew
  have uD : Upd Non W1 wD := by rw [← HwD.out]; exact Upd.refl.drew
  have vD := u1.then_non uD
  have sD : wD.heap.size = w.heap.size + 1 := by rw [← HwD.out]; exact s1
  refine wp_region_held_drew (S := fun w' => w'.cell? ⟨p, 0, none⟩ = some (.slice (some ⟨b, o, none⟩) n c) ∧ w'.cell? ⟨p, 1, none⟩ = some (.int .i64 i) ∧ w'.cell? ⟨b, o + i * 3, none⟩ = some (.string (kstr t.s)) ∧ w'.cell? ⟨b, o + i * 3 + 1, none⟩ = some (.int .i64 t.pos) ∧ w'.cell? ⟨b, o + i * 3 + 2, none⟩ = some (.bool bd)) (by kernel_rfl) (by rw [HwD.out]; exact ⟨cell_upd c0 vD (fun f => f), cell_upd c1 vD (fun f => f), cell_upd t0' vD (fun f => f), cell_upd t1' vD (fun f => f), cell_upd t2' vD (fun f => f)⟩) (fun hHeld => ?_)
  rw [HwD.out] at hHeld ⊢
  refine wpAnyH_take (i := 0) (v := ?_) rfl (by kernel_rfl) (by kernel_rfl) (by kernel_rfl) (fun _ _ _ h => h) (Or.inl ⟨by rfl, ?_⟩) (by assumption) ?_
  rotate_left
  · intro w hSw; (try dsimp only at hSw); go_simp; try with_reducible rfl
  try simp only [put_y]
  try simp only [Act.put]
  try simp only [put_z]
  refine wpAnyH_take (i := 1) (v := ?_) rfl (by kernel_rfl) (by kernel_rfl) (by kernel_rfl) (fun _ _ _ h => h) (Or.inl ⟨by rfl, ?_⟩) (by assumption) ?_
  rotate_left
  · intro w hSw; (try dsimp only at hSw); go_simp; try with_reducible rfl
  try simp only [put_y]
  try simp only [Act.put]
  try simp only [put_z]
  refine wpAnyH_take (i := 2) (v := ?_) rfl (by kernel_rfl) (by kernel_rfl) (by kernel_rfl) (fun _ _ _ h => h) (Or.inl ⟨by rfl, ?_⟩) (by assumption) ?_
  rotate_left
  · intro w hSw; (try dsimp only at hSw); go_simp; try with_reducible rfl
  try simp only [put_y]
  try simp only [Act.put]
  try simp only [put_z]
  refine wpAnyH_take (i := 3) (v := ?_) rfl (by kernel_rfl) (by kernel_rfl) (by kernel_rfl) (fun _ _ _ h => h) (Or.inl ⟨by rfl, ?_⟩) (by assumption) ?_
  rotate_left
  · intro w hSw; (try dsimp only at hSw); go_simp; try with_reducible rfl
  try simp only [put_y]
  try simp only [Act.put]
  try simp only [put_z]
  refine wpAnyH_take (i := 4) (v := ?_) rfl (by kernel_rfl) (by kernel_rfl) (by kernel_rfl) (fun _ _ _ h => h) (Or.inl ⟨by rfl, ?_⟩) (by assumption) ?_
  rotate_left
  · intro w hSw; (try dsimp only at hSw); go_simp; try with_reducible rfl
  try simp only [put_y]
  try simp only [Act.put]
  try simp only [put_z]
  refine wpAnyH_take (i := 5) (v := ?_) rfl (by kernel_rfl) (by kernel_rfl) (by kernel_rfl) (fun _ _ _ h => h) (Or.inl ⟨by rfl, ?_⟩) (by assumption) ?_
  rotate_left
  · intro w hSw; (try dsimp only at hSw); go_simp; try with_reducible rfl
  try simp only [put_y]
  try simp only [Act.put]
  try simp only [put_z]
  refine wpAnyH_take (i := 6) (v := ?_) rfl (by kernel_rfl) (by kernel_rfl) (by kernel_rfl) (fun _ _ _ h => h) (Or.inl ⟨by rfl, ?_⟩) (by assumption) ?_
  rotate_left
  · intro w hSw; (try dsimp only at hSw); go_simp; try with_reducible rfl
  try simp only [put_y]
  try simp only [Act.put]
  try simp only [put_z]
  refine wpAnyH_take (i := 7) (v := ?_) rfl (by kernel_rfl) (by kernel_rfl) (by kernel_rfl) (fun _ _ _ h => h) (Or.inl ⟨by rfl, ?_⟩) (by assumption) ?_
  rotate_left
  · intro w hSw; (try dsimp only at hSw); go_simp; try with_reducible rfl
  try simp only [put_y]
  try simp only [Act.put]
  try simp only [put_z]
  refine wpAnyH_take (i := 8) (v := ?_) rfl (by kernel_rfl) (by kernel_rfl) (by kernel_rfl) (fun _ _ _ h => h) (Or.inl ⟨by rfl, ?_⟩) (by assumption) ?_
  rotate_left
  · intro w hSw; (try dsimp only at hSw); go_simp; try with_reducible rfl
  try simp only [put_y]
  try simp only [Act.put]
  try simp only [put_z]
  refine wpAnyH_take (i := 9) (v := ?_) rfl (by kernel_rfl) (by kernel_rfl) (by kernel_rfl) (fun _ _ _ h => h) (Or.inl ⟨by rfl, ?_⟩) (by assumption) ?_
  rotate_left
  · intro w hSw; (try dsimp only at hSw); go_simp; try with_reducible rfl
  try simp only [put_y]
  try simp only [Act.put]
  try simp only [put_z]
  refine wpAnyH_ready (rs := [10]) (by kernel_rfl) (by simp) ?_
  refine AllReadyH.cons rfl (fun K hK => ?_) AllReadyH.nil
  go_simp
  obtain ⟨W2, HW2⟩ := nm (wD.alloc (.cells #[.string ⟨#[]⟩, .int .i64 0, .bool false] 60))
  have u2 : Upd Non wD W2 := by rw [← HW2.out]; exact Upd.refl.alloc _
  have b2 : Blk W2 (w.heap.size + 1) 60 #[.string ⟨#[]⟩, .int .i64 0, .bool false] := by rw [← HW2.out, ← sD]; exact Blk.new _ _ _
  rw [HW2.out]
  have v2 := vD.then_non u2
  refine hK.out _ _ ?_ (fun hHeld => ?_)
  · exact ⟨cell_upd c0 v2 (fun f => f), cell_upd c1 v2 (fun f => f), cell_upd t0' v2 (fun f => f), cell_upd t1' v2 (fun f => f), cell_upd t2' v2 (fun f => f)⟩
  clear hK K
  try simp only [put_y]
  try simp only [Act.put]
  try simp only [put_z]
  have x0 := b2.cell 0
  have x1 := b2.cell 1
  have x2 := b2.cell 2
  have xf := b2.frozen
  refine wpAnyH_ready (rs := [11]) (by kernel_rfl) (by simp) ?_
  refine AllReadyH.cons rfl (fun K hK => ?_) AllReadyH.nil
  go_simp
  rw [set3_eq]
  have u3 := set3_upd W2 (w.heap.size + 1) (.string (kstr t.s)) (.int .i64 t.pos) (.bool bd)
  have b3 := set3_blk b2 (.string (kstr t.s)) (.int .i64 t.pos) (.bool bd)
  obtain ⟨W3, HW3⟩ := nm (set3 W2 (w.heap.size + 1) (.string (kstr t.s)) (.int .i64 t.pos) (.bool bd))
  rw [HW3.out] at u3 b3 ⊢
  have v3 : Upd Non w W3 := v2.trans u3 (fun k hk e => by omega)
  clear x0 x1 x2 xf
  refine hK.out _ _ ?_ (fun hHeld => ?_)
  · exact ⟨cell_upd c0 v3 (fun f => f), cell_upd c1 v3 (fun f => f), cell_upd t0' v3 (fun f => f), cell_upd t1' v3 (fun f => f), cell_upd t2' v3 (fun f => f)⟩
  clear hK K
  try simp only [put_y]
  try simp only [Act.put]
  try simp only [put_z]
  refine wpAnyH_done (by kernel_rfl) ?_ _
  have b1 := ((b1.upd uD (fun f => f)).upd u2 (fun f => f)).upd u3 (by omega)
  have H3 := Lib.hid (H.out.non v3)
  have HB1 := Lib.hid b1
  have HB3 := Lib.hid b3
  have HV3 := Lib.hid v3
  clear hHeld c0 c1 t0' t1' t2' e1 u1 uD vD u2 v2 u3 b1 b2 b3 HW1 HW2 HW3 HwD
  have CO := Lib.hid (rOk_c H3.out)
  have CE := Lib.hid (rSyntaxError_c H3.out HI.out)
  have hpt2 : Hid (posT L x.i = t.pos) := hpt
  obtain ⟨z, Hz⟩ := nm (x.why == 0)
  rw [Hz.out] at CO HW
  clear hpt
  cases z with
  | false =>
    obtain rfl : R = false := by rw [HW.out]; rfl
    go_wp2_with fail
    refine CO.out.mono ?_
    rintro e w4 ⟨rfl, rfl⟩
    go_wp2_with fail
    refine CE.out.mono ?_
    rintro e w5 ⟨rfl, h5, hu5⟩
    have b5 := HB1.out.upd hu5 (by omega)
    have y0 := b5.cell 0
    have y1 := b5.cell 1
    have y2 := b5.cell 2
    have yf := b5.frozen
    have HB5 := Lib.hid b5
    clear b5
    go_wp2_with fail
    rw [set3_eq]
    refine bodyPost_ret (results_cell_row rfl _ _ w.heap.size 60 _ (0, 0) _ rfl (set3_blk HB5.out _ _ _) Try.underlying60 rfl (by kernel_rfl)) rfl ?_
    refine .inr ⟨HR.out, rfl, h5.upd (set3_upd _ _ _ _ _) (fun k hk e => ?_), ((HV3.out.mono (fun _ _ f => f.elim)).trans hu5 (fun _ _ e => e)).trans (set3_upd _ _ _ _ _) (fun k hk e => by omega)⟩
    subst e
    have hv := H.out.v.lt (k := w.heap.size)
    have hm := H.out.m.lt (k := w.heap.size)
    rw [show (x.fail 2 (posT L x.i)).va = x.va by unfold St.fail; split <;> rfl, show (x.fail 2 (posT L x.i)).ma = x.ma by unfold St.fail; split <;> rfl]
    exact ⟨hpw, fun q => Nat.lt_irrefl _ (hv q), fun q => Nat.lt_irrefl _ (hm q)⟩
  | true =>
    have d2 := HB3.out.cell 2
    cases bd with
    | true =>
      obtain rfl : R = false := by rw [HW.out]; rfl
      go_wp2_with fail
      refine CO.out.mono ?_
      rintro e w4 ⟨rfl, rfl⟩
      clear CO
      go_wp2_with fail
      refine CE.out.mono ?_
      rintro e w5 ⟨rfl, h5, hu5⟩
      have b5 := HB1.out.upd hu5 (by omega)
      have y0 := b5.cell 0
      have y1 := b5.cell 1
      have y2 := b5.cell 2
      have yf := b5.frozen
      have HB5 := Lib.hid b5
      clear b5
      go_wp2_with fail
      rw [set3_eq]
      refine bodyPost_ret (results_cell_row rfl _ _ w.heap.size 60 _ (0, 0) _ rfl (set3_blk HB5.out _ _ _) Try.underlying60 rfl (by kernel_rfl)) rfl ?_
      refine .inr ⟨HR.out, rfl, h5.upd (set3_upd _ _ _ _ _) (fun k hk e => ?_), ((HV3.out.mono (fun _ _ f => f.elim)).trans hu5 (fun _ _ e => e)).trans (set3_upd _ _ _ _ _) (fun k hk e => by omega)⟩
      subst e
      have hv := H.out.v.lt (k := w.heap.size)
      have hm := H.out.m.lt (k := w.heap.size)
      rw [show (x.fail 2 (posT L x.i)).va = x.va by unfold St.fail; split <;> rfl, show (x.fail 2 (posT L x.i)).ma = x.ma by unfold St.fail; split <;> rfl]
      exact ⟨hpw, fun q => Nat.lt_irrefl _ (hv q), fun q => Nat.lt_irrefl _ (hm q)⟩
    | false =>
      have d0 := HB3.out.cell 0
      have hl0 : 0 < t.s.length := List.length_pos_iff.2 (hne rfl)
      have hsz : (kstr t.s).size = t.s.length := kstr_size t.s
      have i0 := fun W => run_at_str hsz hl0 W
      rw [kx_kstr, show t.s.getD 0 0 = t.s.headD 0 by cases t.s <;> rfl, show ((0 : Nat) : Int) = 0 from rfl] at i0
      have CP := Lib.hid (rIsPunct_c (t.s.headD 0) W3)
      obtain ⟨pn, Hpn⟩ := nm (isPn (t.s.headD 0))
      rw [Hpn.out] at CP HW
      generalize (t.s.headD 0).toNat = y at i0 CP
      have HL0 := Lib.hid hl0
      obtain ⟨m, Hm⟩ := nm t.s.length
      rw [Hm.out] at hsz hl0
      cases pn with
      | true =>
        obtain rfl : R = false := by rw [HW.out]; rfl
        go_wp2_with fail
        refine CO.out.mono ?_
        rintro e w4 ⟨rfl, rfl⟩
        go_wp2_with fail
        refine CP.out.mono ?_
        rintro e w4 ⟨rfl, rfl⟩
        clear CO CP d2 d0 i0
        go_wp2_with fail
        refine CE.out.mono ?_
        rintro e w5 ⟨rfl, h5, hu5⟩
        have b5 := HB1.out.upd hu5 (by omega)
        have y0 := b5.cell 0
        have y1 := b5.cell 1
        have y2 := b5.cell 2
        have yf := b5.frozen
        have HB5 := Lib.hid b5
        clear b5
        go_wp2_with fail
        rw [set3_eq]
        refine bodyPost_ret (results_cell_row rfl _ _ w.heap.size 60 _ (0, 0) _ rfl (set3_blk HB5.out _ _ _) Try.underlying60 rfl (by kernel_rfl)) rfl ?_
        refine .inr ⟨HR.out, rfl, h5.upd (set3_upd _ _ _ _ _) (fun k hk e => ?_), ((HV3.out.mono (fun _ _ f => f.elim)).trans hu5 (fun _ _ e => e)).trans (set3_upd _ _ _ _ _) (fun k hk e => by omega)⟩
        subst e
        have hv := H.out.v.lt (k := w.heap.size)
        have hm := H.out.m.lt (k := w.heap.size)
        rw [show (x.fail 2 (posT L x.i)).va = x.va by unfold St.fail; split <;> rfl, show (x.fail 2 (posT L x.i)).ma = x.ma by unfold St.fail; split <;> rfl]
        exact ⟨hpw, fun q => Nat.lt_irrefl _ (hv q), fun q => Nat.lt_irrefl _ (hm q)⟩
      | false =>
        obtain rfl : R = true := by rw [HW.out]; rfl
        go_wp2_with fail
        refine CO.out.mono ?_
        rintro e w4 ⟨rfl, rfl⟩
        go_wp2_with fail
        refine CP.out.mono ?_
        rintro e w4 ⟨rfl, rfl⟩
        clear CO CP CE i0
        have CF := Lib.hid (HFx.out (by trivial) _ HV3.out)
        have CE2 := Lib.hid (fun (w' : World) (y : St) (hy : RdS w' p (some ⟨b, o, none⟩) c L y) (hyi : y.i = x.i) => rSyntaxError_c hy (by rw [hyi]; exact HI.out))
        go_wp2_with fail
        refine CF.out.mono ?_
        rintro e w5 ⟨bb, x2, rfl, h5, hi5, hw5, hu5, ho5, hq⟩
        have s4 : w.heap.size ≤ w4.heap.size := HV3.out.size
        have b5 := HB1.out
        have k1 := HB1.out.lt
        have k3 := HB3.out.lt
        have b5 := b5.upd hu5 (by omega)
        have b6 := HB3.out.upd hu5 (by omega)
        have HQ := Lib.hid hq
        have HU5 := Lib.hid hu5
        have H5 := Lib.hid h5
        clear CF HFx d2 d0 hq hu5
        have hfar : ∀ (y : St), y.va = x2.va → y.ma = x2.ma → ¬ At y.va w.heap.size ∧ ¬ At y.ma w.heap.size := fun y e1 e2 => by
          have hv := H.out.v.lt (k := w.heap.size)
          have hm := H.out.m.lt (k := w.heap.size)
          rw [e1, e2]
          refine ⟨fun q => ?_, fun q => ?_⟩
          · rcases ho5 _ (.inr (.inl q)) with (r | r | r) | r
            · omega
            · exact Nat.lt_irrefl _ (hv r)
            · exact Nat.lt_irrefl _ (hm r)
            · omega
          · rcases ho5 _ (.inr (.inr q)) with (r | r | r) | r
            · omega
            · exact Nat.lt_irrefl _ (hv r)
            · exact Nat.lt_irrefl _ (hm r)
            · omega
        have HFAR := Lib.hid hfar
        clear hfar
        cases bb with
        | false =>
          have C6 := Lib.hid (CE2.out _ _ H5.out hi5)
          rw [hi5] at C6
          clear CE2
          go_wp2_with fail
          refine C6.out.mono ?_
          rintro e w6 ⟨rfl, h6, hu6⟩
          have b7 := b5.upd hu6 (by omega)
          have y0 := b7.cell 0
          have y1 := b7.cell 1
          have y2 := b7.cell 2
          have yf := b7.frozen
          have HB7 := Lib.hid b7
          clear b5 b6 b7 C6
          go_wp2_with fail
          rw [set3_eq]
          refine bodyPost_ret (results_cell_row rfl _ _ w.heap.size 60 _ (0, 0) _ rfl (set3_blk HB7.out _ _ _) Try.underlying60 rfl (by kernel_rfl)) rfl ?_
          refine .inl ⟨HR.out, false, x2, w4, w5, HV3.out, HQ.out, hi5, hw5, HU5.out, (hu6.mono (fun _ _ h => .inl h)).trans (set3_upd _ _ _ _ _) (fun _ _ h => .inr h), rfl, ?_⟩
          have hff := HFAR.out (x2.fail 2 (posT L x.i)) (by unfold St.fail; split <;> rfl) (by unfold St.fail; split <;> rfl)
          exact h6.upd (set3_upd _ _ _ _ _) (fun k hk e => by subst e; exact ⟨hpw, hff.1, hff.2⟩)
        | true =>
          obtain ⟨d0, d1, d2, d3, d4, d5, d6⟩ := H5.out.cells
          rw [hi5, Hi.out] at d1
          have df := H5.out.blk.frozen
          have hn5 : n ≤ 100000 := by rw [← Hn.out]; exact hL
          obtain ⟨W6, HW6⟩ := nm (w5.setCell ⟨p, 1, none⟩ (.int .i64 ((i : Int) + 1)))
          have u6 : Upd (· = p) w5 W6 := by rw [← HW6.out]; exact updCell _ _ _ _
          have h6 : RdS W6 p (some ⟨b, o, none⟩) c L { x2 with i := x.i + 1 } := by
            refine H5.out.set u6 ?_ rfl rfl rfl rfl rfl rfl
            have := H5.out.blk.set_ 1 (.int .i64 ((i : Int) + 1))
            rw [HW6.out] at this
            simpa [rcells, Hi.out] using this
          have e6 := HW6.out
          have b7 := b5.upd u6 (by omega)
          have y0 := b7.cell 0
          have y1 := b7.cell 1
          have y2 := b7.cell 2
          have yf := b7.frozen
          have b8 := b6.upd u6 (by omega)
          have z0 := b8.cell 0
          have z1 := b8.cell 1
          have z2 := b8.cell 2
          have HB7 := Lib.hid b7
          have HU6 := Lib.hid u6
          have H6 := Lib.hid h6
          clear b5 b6 b7 b8 CE2 u6 h6
          go_wp2_with fail
          rw [set3_eq]
          refine bodyPost_ret (results_cell_row rfl _ _ w.heap.size 60 _ (0, 0) _ rfl (set3_blk HB7.out _ _ _) Try.underlying60 rfl (by kernel_rfl)) rfl ?_
          refine .inl ⟨HR.out, true, x2, w4, w5, HV3.out, HQ.out, hi5, hw5, HU5.out, (HU6.out.mono (fun _ _ h => .inl h)).trans (set3_upd _ _ _ _ _) (fun _ _ h => .inr h), rfl, ?_⟩
          have hff := HFAR.out { x2 with i := x.i + 1 } rfl rfl
          exact H6.out.upd (set3_upd _ _ _ _ _) (fun k hk e => by subst e; exact ⟨hpw, hff.1, hff.2⟩)
end Go.Proofs.Ytblkgjdhaibhgaa
