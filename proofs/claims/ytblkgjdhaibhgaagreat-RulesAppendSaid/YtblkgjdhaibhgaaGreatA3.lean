/-
  Lemmas and walks that the claim rests on, part 3 (packed by a program).
-/
import Derived.Test.YtblkgjdhaibhgaaGreatA2
namespace Go.Proofs.YtblkgjdhaibhgaaGreat
open Go.RowKit
def St.exp (x : St) (L : List Tok) (s : Bs) : St := bif (x.why == 0 && isT L x.i s) then { x with i := x.i + 1 } else x.fail 2 (posT L x.i)
theorem rExpect_c {w : World} {p : Nat} {A : Option Addr} {c : Nat} {L : List Tok} {x : St} (h : RdS w p A c L x) (hi : x.i < L.length) (hL : L.length ≤ 100000) (s : Bs) :
  Calls Tryz.prog 63 #[.pointer (some ⟨p, 0, none⟩), .string (kstr s)] w fun e w' => e = .returned (.tuple #[]) ∧ RdS w' p A c L (x.exp L s) ∧ Upd (· = p) w w' := by
 have C := Lib.hid (rIs_c h hi s);have H := Lib.hid h;have HE : Hid (x.exp L s = bif (x.why == 0 && isT L x.i s) then { x with i := x.i + 1 } else x.fail 2 (posT L x.i)) := rfl;obtain ⟨b, Hb⟩ := nm (x.why == 0 && isT L x.i s);rw [Hb.out] at C HE;obtain ⟨i, Hi⟩ := nm x.i;have hi' := hi;rw [Hi.out] at hi';go_enter Tryz.func63, Tryz.ntmps63
 cases b with
 | true =>
  go_wp2_with fail
  refine C.out.mono ?_;rintro e w1 ⟨rfl, hu⟩;have h1 := H.out.non hu;obtain ⟨_, c1, _⟩ := h1.cells;rw [Hi.out] at c1;have hf := h1.blk.frozen;have H1 := Lib.hid h1;clear h1 C h
  go_wp2_with fail
  go_end0
  refine ⟨rfl, ?_, (hu.mono (T := (· = p)) (fun _ _ f => f.elim)).trans (updCell _ _ _ _) (fun _ _ h => h)⟩;rw [HE.out];refine H1.out.set (updCell _ _ _ _) ?_ rfl rfl rfl rfl rfl rfl;have := H1.out.blk.set_ 1 (.int .i64 ((i : Int) + 1))
  simpa [rcells, Hi.out] using this
 | false =>
  go_wp2_with fail
  refine C.out.mono ?_;rintro e w1 ⟨rfl, hu⟩;have C2 := Lib.hid (rSyntaxError_c (H.out.non hu) hi);clear C h
  go_wp2_with fail
  refine C2.out.mono ?_;rintro e w2 ⟨rfl, h2, hu2⟩
  go_wp2_with fail
  refine bodyPost_ret (results_none rfl _ _ _) rfl ?_;refine ⟨rfl, ?_, (hu.mono (T := (· = p)) (fun _ _ f => f.elim)).trans hu2 (fun _ _ h => h)⟩;rw [HE.out];exact h2
def set3 (w : World) (g : Nat) (a b c : Value) : World := ((w.setCell ⟨g, 0, none⟩ a).setCell ⟨g, 1, none⟩ b).setCell ⟨g, 2, none⟩ c
theorem set3_eq (w : World) (g : Nat) (a b c : Value) : ((w.setCell ⟨g, 0, none⟩ a).setCell ⟨g, 1, none⟩ b).setCell ⟨g, 2, none⟩ c = set3 w g a b c := rfl
theorem set3_blk {w : World} {g : Nat} {t : TypeId} {x0 x1 x2 : Value} (h : Blk w g t #[x0, x1, x2]) (a b c : Value) : Blk (set3 w g a b c) g t #[a, b, c] := by
 have := ((h.set_ 0 a).set_ 1 b).set_ 2 c
 simpa [set3] using this
theorem set3_upd (w : World) (g : Nat) (a b c : Value) : Upd (· = g) w (set3 w g a b c) :=
 ((updCell _ _ _ _).trans (updCell _ _ _ _) (fun _ _ h => h)).trans (updCell _ _ _ _) (fun _ _ h => h)
def tokVal (s : Bs) (pos : Nat) : Value := .agg #[.string (kstr s), .int .i64 pos, .bool false]
def wordOk (L : List Tok) (x : St) : Bool := match L[x.i]? with | some t => x.why == 0 && (!t.bad && !isPn (t.s.headD 0)) | none => false
def WordP (w : World) (p : Nat) (A : Option Addr) (c : Nat) (L : List Tok) (x : St) (t : Tok) (Q : Bool → St → World → World → Prop) (e : Ending) (w' : World) : Prop :=
 (wordOk L x = true ∧ ∃ bb x2 w1 w2, Upd Non w w1 ∧ Q bb x2 w1 w2 ∧ x2.i = x.i ∧ x2.why = 0 ∧ Upd (fun k => k < w.heap.size) w1 w2 ∧ Upd (fun k => k = p ∨ k = w.heap.size) w2 w' ∧ e = .returned (bif bb then tokVal t.s t.pos else tokVal [] 0) ∧ RdS w' p A c L (bif bb then { x2 with i := x.i + 1 } else x2.fail 2 (posT L x.i))) ∨
  (wordOk L x = false ∧ e = .returned (tokVal [] 0) ∧ RdS w' p A c L (x.fail 2 (posT L x.i)) ∧ Upd (· = p) w w')
set_option maxRecDepth 100000 in
set_option maxHeartbeats 4000000 in
theorem rWord_c {w : World} {p : Nat} {A : Option Addr} {c : Nat} {L : List Tok} {x : St} (h : RdS w p A c L x) (hi : x.i < L.length) (hL : L.length ≤ 100000) (hne : L[x.i].bad = false → L[x.i].s ≠ []) (f : FuncId) (cap : Array Value) (hcf : ∀ (args : Array Value) (w : World), (callFunc f args).run Tryz.prog w = .ok (.enter f args) w) (Q : Bool → St → World → World → Prop)
  (HF : wordOk L x = true → ∀ w1, Upd Non w w1 → Calls Tryz.prog f (#[.string (kstr L[x.i].s)] ++ cap) w1 fun e w2 => ∃ bb x2, e = .returned (.bool bb) ∧ RdS w2 p A c L x2 ∧ x2.i = x.i ∧ x2.why = 0 ∧ Upd (fun k => k < w.heap.size) w1 w2 ∧ (∀ k, x2.own p k → x.own p k ∨ w1.heap.size ≤ k) ∧ Q bb x2 w1 w2) :
  Calls Tryz.prog 62 #[.pointer (some ⟨p, 0, none⟩), .func (.func f) #[] cap] w (WordP w p A c L x L[x.i] Q) := by
 have HW : Hid (wordOk L x = (x.why == 0 && (!L[x.i].bad && !isPn (L[x.i].s.headD 0)))) := by show _ = _; unfold wordOk; rw [List.getElem?_eq_getElem hi]
 have hpt := posT_eq hi;obtain ⟨b, o, rfl, hF, hbw, t0, t1, t2⟩ := h.tok.at_ hi;obtain ⟨c0, c1, c2, c3, c4, c5, c6⟩ := h.cells;obtain ⟨W1, HW1⟩ := nm (w.alloc (.cells #[.string ⟨#[]⟩, .int .i64 0, .bool false] 62))
 have u1 : Upd Non w W1 := by rw [← HW1.out]; exact Upd.refl.alloc _
 have b1 : Blk W1 w.heap.size 62 #[.string ⟨#[]⟩, .int .i64 0, .bool false] := by rw [← HW1.out]; exact Blk.new _ _ _
 have s1 : W1.heap.size = w.heap.size + 1 := by rw [← HW1.out]; simp
 have e1 := HW1.out;have hle := h.le;have HI : Hid (x.i < L.length) := hi;have hpw : p < w.heap.size := h.blk.lt;have H := Lib.hid h;have HFx := Lib.hid HF;obtain ⟨R, HR⟩ := nm (wordOk L x);rw [HR.out] at HW HFx;obtain ⟨n, Hn⟩ := nm L.length;rw [Hn.out] at c0 hi hle;obtain ⟨i, Hi⟩ := nm x.i;rw [Hi.out] at c1 hi
 have t0' : w.cell? ⟨b, o + i * 3, none⟩ = some (.string (kstr L[x.i].s)) := by rw [← Hi.out]; exact t0
 have t1' : w.cell? ⟨b, o + i * 3 + 1, none⟩ = some (.int .i64 L[x.i].pos) := by rw [← Hi.out]; exact t1
 have t2' : w.cell? ⟨b, o + i * 3 + 2, none⟩ = some (.bool L[x.i].bad) := by rw [← Hi.out]; exact t2
 generalize L[x.i] = t at *;obtain ⟨bd, Hbd⟩ := nm t.bad;rw [Hbd.out] at t2' HW hne;clear h HF t0 t1 t2 c2 c3 c4 c5 c6;go_enter Tryz.func62, Tryz.ntmps62
 go_upto_region 1 with fail
 obtain ⟨wD, HwD⟩ := nm W1.drew
 have uD : Upd Non W1 wD := by rw [← HwD.out]; exact Upd.refl.drew
 have vD := u1.then_non uD
 have sD : wD.heap.size = w.heap.size + 1 := by rw [← HwD.out]; exact s1
 refine wp_region_held_drew (S := fun w' => w'.cell? ⟨p, 0, none⟩ = some (.slice (some ⟨b, o, none⟩) n c) ∧ w'.cell? ⟨p, 1, none⟩ = some (.int .i64 i) ∧ w'.cell? ⟨b, o + i * 3, none⟩ = some (.string (kstr t.s)) ∧ w'.cell? ⟨b, o + i * 3 + 1, none⟩ = some (.int .i64 t.pos) ∧ w'.cell? ⟨b, o + i * 3 + 2, none⟩ = some (.bool bd)) (by kernel_rfl) (by rw [HwD.out]; exact ⟨cell_upd c0 vD (fun f => f), cell_upd c1 vD (fun f => f), cell_upd t0' vD (fun f => f), cell_upd t1' vD (fun f => f), cell_upd t2' vD (fun f => f)⟩) (fun hHeld => ?_)
 rw [HwD.out] at hHeld ⊢;refine wpT 0 ?_
 try simp only [put_y, put_z]
 refine wpT 1 ?_
 try simp only [put_y, put_z]
 refine wpT 2 ?_
 try simp only [put_y, put_z]
 refine wpT 3 ?_
 try simp only [put_y, put_z]
 refine wpT 4 ?_
 try simp only [put_y, put_z]
 refine wpT 5 ?_
 try simp only [put_y, put_z]
 refine wpT 6 ?_
 try simp only [put_y, put_z]
 refine wpT 7 ?_
 try simp only [put_y, put_z]
 refine wpT 8 ?_
 try simp only [put_y, put_z]
 refine wpT 9 ?_
 try simp only [put_y, put_z]
 refine wpAnyH_ready (rs := [10]) (by kernel_rfl) (by simp) ?_;refine AllReadyH.cons rfl (fun K hK => ?_) AllReadyH.nil;go_simp;obtain ⟨W2, HW2⟩ := nm (wD.alloc (.cells #[.string ⟨#[]⟩, .int .i64 0, .bool false] 62))
 have u2 : Upd Non wD W2 := by rw [← HW2.out]; exact Upd.refl.alloc _
 have b2 : Blk W2 (w.heap.size + 1) 62 #[.string ⟨#[]⟩, .int .i64 0, .bool false] := by rw [← HW2.out, ← sD]; exact Blk.new _ _ _
 rw [HW2.out];have v2 := vD.then_non u2;refine hK.out _ _ ?_ (fun hHeld => ?_)
 ·
  exact ⟨cell_upd c0 v2 (fun f => f), cell_upd c1 v2 (fun f => f), cell_upd t0' v2 (fun f => f), cell_upd t1' v2 (fun f => f), cell_upd t2' v2 (fun f => f)⟩
 clear hK K
 try simp only [put_y, put_z]
 have x0 := b2.cell 0;have x1 := b2.cell 1;have x2 := b2.cell 2;have xf := b2.frozen;refine wpAnyH_ready (rs := [11]) (by kernel_rfl) (by simp) ?_;refine AllReadyH.cons rfl (fun K hK => ?_) AllReadyH.nil;go_simp;rw [set3_eq];have u3 := set3_upd W2 (w.heap.size + 1) (.string (kstr t.s)) (.int .i64 t.pos) (.bool bd);have b3 := set3_blk b2 (.string (kstr t.s)) (.int .i64 t.pos) (.bool bd)
 obtain ⟨W3, HW3⟩ := nm (set3 W2 (w.heap.size + 1) (.string (kstr t.s)) (.int .i64 t.pos) (.bool bd));rw [HW3.out] at u3 b3 ⊢;have v3 : Upd Non w W3 := v2.trans u3 (fun k hk e => by omega);clear x0 x1 x2 xf;refine hK.out _ _ ?_ (fun hHeld => ?_)
 ·
  exact ⟨cell_upd c0 v3 (fun f => f), cell_upd c1 v3 (fun f => f), cell_upd t0' v3 (fun f => f), cell_upd t1' v3 (fun f => f), cell_upd t2' v3 (fun f => f)⟩
 clear hK K
 try simp only [put_y, put_z]
 refine wpAnyH_done (by kernel_rfl) ?_ _;have b1 := ((b1.upd uD (fun f => f)).upd u2 (fun f => f)).upd u3 (by omega);have H3 := Lib.hid (H.out.non v3);have HB1 := Lib.hid b1;have HB3 := Lib.hid b3;have HV3 := Lib.hid v3;clear hHeld c0 c1 t0' t1' t2' e1 u1 uD vD u2 v2 u3 b1 b2 b3 HW1 HW2 HW3 HwD;have CO := Lib.hid (rOk_c H3.out);have CE := Lib.hid (rSyntaxError_c H3.out HI.out)
 have hpt2 : Hid (posT L x.i = t.pos) := hpt;obtain ⟨z, Hz⟩ := nm (x.why == 0);rw [Hz.out] at CO HW;clear hpt
 cases z with
 | false =>
  obtain rfl : R = false := by rw [HW.out]; rfl
  go_wp2_with fail
  refine CO.out.mono ?_;rintro e w4 ⟨rfl, rfl⟩
  go_wp2_with fail
  refine CE.out.mono ?_;rintro e w5 ⟨rfl, h5, hu5⟩;have b5 := HB1.out.upd hu5 (by omega);have y0 := b5.cell 0;have y1 := b5.cell 1;have y2 := b5.cell 2;have yf := b5.frozen;have HB5 := Lib.hid b5;clear b5
  go_wp2_with fail
  rw [set3_eq];refine bodyPost_ret (results_cell_row rfl _ _ w.heap.size 62 _ (0, 0) _ rfl (set3_blk HB5.out _ _ _) Tryz.underlying62 rfl (by kernel_rfl)) rfl ?_
  refine .inr ⟨HR.out, rfl, h5.upd (set3_upd _ _ _ _ _) (fun k hk e => ?_), ((HV3.out.mono (fun _ _ f => f.elim)).trans hu5 (fun _ _ e => e)).trans (set3_upd _ _ _ _ _) (fun k hk e => by omega)⟩
  subst e;have hv := H.out.v.lt (k := w.heap.size);have hm := H.out.m.lt (k := w.heap.size);rw [show (x.fail 2 (posT L x.i)).va = x.va by unfold St.fail; split <;> rfl, show (x.fail 2 (posT L x.i)).ma = x.ma by unfold St.fail; split <;> rfl];exact ⟨hpw, fun q => Nat.lt_irrefl _ (hv q), fun q => Nat.lt_irrefl _ (hm q)⟩
 | true =>
  have d2 := HB3.out.cell 2
  cases bd with
  | true =>
   obtain rfl : R = false := by rw [HW.out]; rfl
   go_wp2_with fail
   refine CO.out.mono ?_;rintro e w4 ⟨rfl, rfl⟩;clear CO
   go_wp2_with fail
   refine CE.out.mono ?_;rintro e w5 ⟨rfl, h5, hu5⟩;have b5 := HB1.out.upd hu5 (by omega);have y0 := b5.cell 0;have y1 := b5.cell 1;have y2 := b5.cell 2;have yf := b5.frozen;have HB5 := Lib.hid b5;clear b5
   go_wp2_with fail
   rw [set3_eq];refine bodyPost_ret (results_cell_row rfl _ _ w.heap.size 62 _ (0, 0) _ rfl (set3_blk HB5.out _ _ _) Tryz.underlying62 rfl (by kernel_rfl)) rfl ?_
   refine .inr ⟨HR.out, rfl, h5.upd (set3_upd _ _ _ _ _) (fun k hk e => ?_), ((HV3.out.mono (fun _ _ f => f.elim)).trans hu5 (fun _ _ e => e)).trans (set3_upd _ _ _ _ _) (fun k hk e => by omega)⟩
   subst e;have hv := H.out.v.lt (k := w.heap.size);have hm := H.out.m.lt (k := w.heap.size);rw [show (x.fail 2 (posT L x.i)).va = x.va by unfold St.fail; split <;> rfl, show (x.fail 2 (posT L x.i)).ma = x.ma by unfold St.fail; split <;> rfl];exact ⟨hpw, fun q => Nat.lt_irrefl _ (hv q), fun q => Nat.lt_irrefl _ (hm q)⟩
  | false =>
   have d0 := HB3.out.cell 0;have hl0 : 0 < t.s.length := List.length_pos_iff.2 (hne rfl);have hsz : (kstr t.s).size = t.s.length := kstr_size t.s
   have i0 := fun W => run_at_str hsz hl0 W
   rw [kx_kstr, show t.s.getD 0 0 = t.s.headD 0 by cases t.s <;> rfl, show ((0 : Nat) : Int) = 0 from rfl] at i0;have CP := Lib.hid (rIsPunct_c (t.s.headD 0) W3);obtain ⟨pn, Hpn⟩ := nm (isPn (t.s.headD 0));rw [Hpn.out] at CP HW;generalize (t.s.headD 0).toNat = y at i0 CP;have HL0 := Lib.hid hl0;obtain ⟨m, Hm⟩ := nm t.s.length;rw [Hm.out] at hsz hl0
   cases pn with
   | true =>
    obtain rfl : R = false := by rw [HW.out]; rfl
    go_wp2_with fail
    refine CO.out.mono ?_;rintro e w4 ⟨rfl, rfl⟩
    go_wp2_with fail
    refine CP.out.mono ?_;rintro e w4 ⟨rfl, rfl⟩;clear CO CP d2 d0 i0
    go_wp2_with fail
    refine CE.out.mono ?_;rintro e w5 ⟨rfl, h5, hu5⟩;have b5 := HB1.out.upd hu5 (by omega);have y0 := b5.cell 0;have y1 := b5.cell 1;have y2 := b5.cell 2;have yf := b5.frozen;have HB5 := Lib.hid b5;clear b5
    go_wp2_with fail
    rw [set3_eq];refine bodyPost_ret (results_cell_row rfl _ _ w.heap.size 62 _ (0, 0) _ rfl (set3_blk HB5.out _ _ _) Tryz.underlying62 rfl (by kernel_rfl)) rfl ?_
    refine .inr ⟨HR.out, rfl, h5.upd (set3_upd _ _ _ _ _) (fun k hk e => ?_), ((HV3.out.mono (fun _ _ f => f.elim)).trans hu5 (fun _ _ e => e)).trans (set3_upd _ _ _ _ _) (fun k hk e => by omega)⟩
    subst e;have hv := H.out.v.lt (k := w.heap.size);have hm := H.out.m.lt (k := w.heap.size);rw [show (x.fail 2 (posT L x.i)).va = x.va by unfold St.fail; split <;> rfl, show (x.fail 2 (posT L x.i)).ma = x.ma by unfold St.fail; split <;> rfl];exact ⟨hpw, fun q => Nat.lt_irrefl _ (hv q), fun q => Nat.lt_irrefl _ (hm q)⟩
   | false =>
    obtain rfl : R = true := by rw [HW.out]; rfl
    go_wp2_with fail
    refine CO.out.mono ?_;rintro e w4 ⟨rfl, rfl⟩
    go_wp2_with fail
    refine CP.out.mono ?_;rintro e w4 ⟨rfl, rfl⟩;clear CO CP CE i0;have CF := Lib.hid (HFx.out (by trivial) _ HV3.out);have CE2 := Lib.hid (fun (w' : World) (y : St) (hy : RdS w' p (some ⟨b, o, none⟩) c L y) (hyi : y.i = x.i) => rSyntaxError_c hy (by rw [hyi]; exact HI.out))
    go_wp2_with fail
    refine CF.out.mono ?_;rintro e w5 ⟨bb, x2, rfl, h5, hi5, hw5, hu5, ho5, hq⟩;have s4 : w.heap.size ≤ w4.heap.size := HV3.out.size;have b5 := HB1.out;have k1 := HB1.out.lt;have k3 := HB3.out.lt;have b5 := b5.upd hu5 (by omega);have b6 := HB3.out.upd hu5 (by omega);have HQ := Lib.hid hq;have HU5 := Lib.hid hu5;have H5 := Lib.hid h5;clear CF HFx d2 d0 hq hu5
    have hfar : ∀ (y : St), y.va = x2.va → y.ma = x2.ma → ¬ At y.va w.heap.size ∧ ¬ At y.ma w.heap.size := fun y e1 e2 => by
     have hv := H.out.v.lt (k := w.heap.size);have hm := H.out.m.lt (k := w.heap.size);rw [e1, e2];refine ⟨fun q => ?_, fun q => ?_⟩
     ·
      rcases ho5 _ (.inr (.inl q)) with (r | r | r) | r
      ·
       omega
      ·
       exact Nat.lt_irrefl _ (hv r)
      ·
       exact Nat.lt_irrefl _ (hm r)
      ·
       omega
     ·
      rcases ho5 _ (.inr (.inr q)) with (r | r | r) | r
      ·
       omega
      ·
       exact Nat.lt_irrefl _ (hv r)
      ·
       exact Nat.lt_irrefl _ (hm r)
      ·
       omega
    have HFAR := Lib.hid hfar;clear hfar
    cases bb with
    | false =>
     have C6 := Lib.hid (CE2.out _ _ H5.out hi5);rw [hi5] at C6;clear CE2
     go_wp2_with fail
     refine C6.out.mono ?_;rintro e w6 ⟨rfl, h6, hu6⟩;have b7 := b5.upd hu6 (by omega);have y0 := b7.cell 0;have y1 := b7.cell 1;have y2 := b7.cell 2;have yf := b7.frozen;have HB7 := Lib.hid b7;clear b5 b6 b7 C6
     go_wp2_with fail
     rw [set3_eq];refine bodyPost_ret (results_cell_row rfl _ _ w.heap.size 62 _ (0, 0) _ rfl (set3_blk HB7.out _ _ _) Tryz.underlying62 rfl (by kernel_rfl)) rfl ?_
     refine .inl ⟨HR.out, false, x2, w4, w5, HV3.out, HQ.out, hi5, hw5, HU5.out, (hu6.mono (fun _ _ h => .inl h)).trans (set3_upd _ _ _ _ _) (fun _ _ h => .inr h), rfl, ?_⟩
     have hff := HFAR.out (x2.fail 2 (posT L x.i)) (by unfold St.fail; split <;> rfl) (by unfold St.fail; split <;> rfl);exact h6.upd (set3_upd _ _ _ _ _) (fun k hk e => by subst e; exact ⟨hpw, hff.1, hff.2⟩)
    | true =>
     obtain ⟨d0, d1, d2, d3, d4, d5, d6⟩ := H5.out.cells;rw [hi5, Hi.out] at d1;have df := H5.out.blk.frozen
     have hn5 : n ≤ 100000 := by rw [← Hn.out]; exact hL
     obtain ⟨W6, HW6⟩ := nm (w5.setCell ⟨p, 1, none⟩ (.int .i64 ((i : Int) + 1)))
     have u6 : Upd (· = p) w5 W6 := by rw [← HW6.out]; exact updCell _ _ _ _
     have h6 : RdS W6 p (some ⟨b, o, none⟩) c L { x2 with i := x.i + 1 } := by
      refine H5.out.set u6 ?_ rfl rfl rfl rfl rfl rfl;have := H5.out.blk.set_ 1 (.int .i64 ((i : Int) + 1));rw [HW6.out] at this
      simpa [rcells, Hi.out] using this
     have e6 := HW6.out;have b7 := b5.upd u6 (by omega);have y0 := b7.cell 0;have y1 := b7.cell 1;have y2 := b7.cell 2;have yf := b7.frozen;have b8 := b6.upd u6 (by omega);have z0 := b8.cell 0;have z1 := b8.cell 1;have z2 := b8.cell 2;have HB7 := Lib.hid b7;have HU6 := Lib.hid u6;have H6 := Lib.hid h6;clear b5 b6 b7 b8 CE2 u6 h6
     go_wp2_with fail
     rw [set3_eq];refine bodyPost_ret (results_cell_row rfl _ _ w.heap.size 62 _ (0, 0) _ rfl (set3_blk HB7.out _ _ _) Tryz.underlying62 rfl (by kernel_rfl)) rfl ?_
     refine .inl ⟨HR.out, true, x2, w4, w5, HV3.out, HQ.out, hi5, hw5, HU5.out, (HU6.out.mono (fun _ _ h => .inl h)).trans (set3_upd _ _ _ _ _) (fun _ _ h => .inr h), rfl, ?_⟩
     have hff := HFAR.out { x2 with i := x.i + 1 } rfl rfl;exact H6.out.upd (set3_upd _ _ _ _ _) (fun k hk e => by subst e; exact ⟨hpw, hff.1, hff.2⟩)
theorem rIsLower_c (c : UInt8) (w : World) : Calls Tryz.prog 119 #[.int .u8 c.toNat] w fun e w' => e = .returned (.bool (isLw c)) ∧ w' = w := by
 have HR : Hid (isLw c = decide (97 ≤ c.toNat ∧ c.toNat ≤ 122)) := rfl;obtain ⟨R, HRR⟩ := nm (isLw c);rw [HRR.out] at HR ⊢;obtain ⟨x, Hx⟩ := nm c.toNat;rw [Hx.out] at HR ⊢
 by_cases h1 : 97 ≤ x
 ·
  have f1 : decide ((97 : Int) ≤ (x : Int)) = true := decide_eq_true (by omega);obtain ⟨b, f2⟩ : ∃ b, decide ((x : Int) ≤ 122) = b := ⟨_, rfl⟩
  obtain rfl : R = b := by
   rw [HR.out, ← f2, Bool.eq_iff_iff, decide_eq_true_eq, decide_eq_true_eq]; omega
  go_enter Tryz.func119, Tryz.ntmps119
  go_wp2_with fail
  go_ret;exact ⟨rfl, rfl⟩
 ·
  have f1 : decide ((97 : Int) ≤ (x : Int)) = false := decide_eq_false (by omega)
  obtain rfl : R = false := by rw [HR.out]; exact decide_eq_false (by omega)
  go_enter Tryz.func119, Tryz.ntmps119
  go_wp2_with fail
  go_ret;exact ⟨rfl, rfl⟩
theorem findB_step {l : Bs} {k : Nat} (h : k < l.length) (c : UInt8) (i : Nat) : findB (l.drop k) c i = if l.getD k 0 = c then some i else findB (l.drop (k + 1)) c (i + 1) := by rw [drop_cons h]; rfl
theorem u8s_len (l : Bs) : (u8s l).length = l.length := by simp [u8s]
theorem u8s_get (l : Bs) {k : Nat} (h : k < l.length) : (u8s l)[k]'(by rw [u8s_len]; exact h) = .int .u8 ((l.getD k 0).toNat : Int) := by simp [u8s, List.getD, h]
set_option maxRecDepth 100000 in
set_option maxHeartbeats 4000000 in
theorem rLookup_c (w : World) (p o : Nat) (T : TypeId) (cs : Array Value) (VA : Option Addr) (vc : Nat) (vs : Bs) (hb : Blk w p T cs) (hcs : cs[o]? = some (.slice VA vs.length vc)) (hv : Own w 5 1 VA vs.length vc (u8s vs)) (hp : ¬ At VA p) (c : UInt8) (left : Bool) (hn : vs.length ≤ 100000) :
  Calls Tryz.prog 120 #[.pointer (some ⟨p, o, none⟩), .int .u8 c.toNat, .bool left] w fun e w' => e = .returned (.int .i64 (lookF vs c left).1) ∧ ∃ (VA' : Option Addr) (vc' : Nat), Blk w' p T (cs.setIfInBounds o (.slice VA' (lookF vs c left).2.length vc')) ∧ Own w' 5 1 VA' (lookF vs c left).2.length vc' (u8s (lookF vs c left).2) ∧ (∀ k, At VA' k → At VA k ∨ w.heap.size ≤ k) ∧ Upd (fun k => k = p ∨ At VA k) w w' := by
 have c0 := hb.cell o;rw [hcs] at c0;have hf := hb.frozen o;have hL : Hid (lookF vs c left = match findB vs c 0 with | some i => (i + 1, vs) | none => if left then (vs.length + 1, vs ++ [c]) else (0, vs)) := rfl
 have hsame : cs.setIfInBounds o (.slice VA vs.length vc) = cs := by
  apply Array.ext
  ·
   simp
  ·
   intro i h1 h2;rw [Array.getElem_setIfInBounds]
   ·
    split
    ·
     rename_i e;subst e;rw [Array.getElem?_eq_getElem h2] at hcs;exact (Option.some.inj hcs).symm
    ·
     rfl
 obtain ⟨n, Hn⟩ := nm vs.length;rw [Hn.out] at c0 hn hsame
 have hv2 : Own w 5 1 VA n vc (u8s vs) := by rw [← Hn.out]; exact hv
 have HS := Lib.hid hsame;have HCS := Lib.hid hcs;clear hsame hcs hv;go_enter Tryz.func120, Tryz.ntmps120
 go_wp2_with fail
 go_loopg [13] n (fun g s wr => ∃ k : Nat, Hid (g = n - k) ∧ k ≤ n ∧ s = .int .i64 k ∧ Hid (findB vs c 0 = findB (vs.drop k) c k) ∧ wr = w)
 case atStart => exact ⟨0, rfl, by omega, rfl, by show _ = _; rw [List.drop_zero], rfl⟩
 case round =>
  obtain ⟨k, Hg, hk, rfl, HK, hw⟩ := hrel;subst hw
  by_cases hlt : k < n
  ·
   have ti : decide ((k : Int) < (n : Int)) = true := decide_eq_true (by omega)
   have hkl : k < vs.length := by rw [Hn.out]; exact hlt
   obtain ⟨g, rfl⟩ := hv2.some_ (by omega);have hc := hv2.cell_ (i := k) (by rw [u8s_len]; exact hkl);rw [u8s_get vs hkl] at hc;have HF := Lib.hid (findB_step hkl c k);obtain ⟨y, Hy⟩ := nm (vs.getD k 0);rw [Hy.out] at hc HF
   by_cases hyc : y = c
   ·
    have fy : (((y.toNat : Nat) : Int) == ((c.toNat : Nat) : Int)) = true := by rw [hyc]; simp
    have HR : Hid (lookF vs c left = (k + 1, vs)) := by show _ = _; rw [hL.out, HK.out, HF.out, if_pos hyc]
    clear hyc HF HK hL
    go_wp2_with fail
    go_ret;refine ⟨by rw [HR.out]; rfl, some ⟨g, 0, none⟩, vc, ?_, ?_, fun _ h => .inl h, Upd.refl⟩
    ·
     rw [HR.out, Hn.out, HS.out]; exact hb
    ·
     rw [HR.out, Hn.out]; exact hv2
   ·
    have fy : (((y.toNat : Nat) : Int) == ((c.toNat : Nat) : Int)) = false := by
     simp only [beq_eq_false_iff_ne, ne_eq];intro q;exact hyc (UInt8.toNat_inj.1 (by omega))
    have HK2 : Hid (findB vs c 0 = findB (vs.drop (k + 1)) c (k + 1)) := by show _ = _; rw [HK.out, HF.out, if_neg hyc]
    clear hyc HF HK
    go_wp2_with fail
    go_roundg (n - (k + 1))
    case measure => rw [Hg.out]; omega
    case rel => exact ⟨k + 1, rfl, by omega, by go_num, HK2, rfl⟩
  ·
   obtain rfl : n = k := by omega
   have hnone : findB vs c 0 = none := by rw [HK.out, List.drop_of_length_le (by rw [Hn.out]; exact Nat.le_refl _)]; rfl
   have HN : Hid (lookF vs c left = if left then (n + 1, vs ++ [c]) else (0, vs)) := by show _ = _; rw [hL.out, hnone, Hn.out]
   clear hnone HK hL
   cases left with
   | false =>
    go_wp2_with fail
    go_ret;refine ⟨by rw [HN.out]; rfl, VA, vc, ?_, ?_, fun _ h => .inl h, Upd.refl⟩
    ·
     rw [HN.out]; show Blk _ _ _ (cs.setIfInBounds o (.slice VA vs.length vc)); rw [Hn.out, HS.out]; exact hb
    ·
     rw [HN.out]; show Own _ _ _ _ vs.length _ _; rw [Hn.out]; exact hv2
   | true =>
    have ho : o < cs.size := by
     rcases Nat.lt_or_ge o cs.size with q | q
     ·
      exact q
     ·
      have := HCS.out;rw [Array.getElem?_eq_none q] at this; cases this
    have HO := Lib.hid ho;have hbu := hb;have hcs2 := HCS.out;rw [Hn.out] at hcs2;have HCS2 := Lib.hid hcs2;clear ho HCS HS Hg hcs2
    go_wp2_with (at_builtin; refine wpList_app rfl rfl T_u8s rfl (hv2.alloc _) rfl (Sl.new _ _ _) rfl (by simp [Value.oneCell']) (by simp only [maxLen]; omega) (by omega) ?_; intro A8 c8 w8 ho8 hu8 hat8; have b8 := (hbu.alloc _).upd hu8 hp; have d8 := b8.cell o; rw [HCS2.out] at d8; have f8 := b8.frozen o; have b9 := b8.set_ o (.slice A8 (n + 1) c8); have d9 := b9.cell o; rw [Array.getElem?_setIfInBounds_self_of_lt HO.out] at d9)
    go_ret;refine ⟨?_, A8, c8, ?_, ?_, fun k h => ?_, ?_⟩
    ·
     rw [HN.out]; rfl
    ·
     rw [HN.out];show Blk _ _ _ (cs.setIfInBounds o (.slice A8 (vs ++ [c]).length c8));rw [List.length_append, Hn.out]; exact b9
    ·
     rw [HN.out];show Own _ _ _ _ (vs ++ [c]).length _ (u8s (vs ++ [c]));rw [List.length_append, Hn.out]
     have e : u8s (vs ++ [c]) = u8s vs ++ [.int .u8 (c.toNat : Int)] := by simp [u8s]
     rw [e];refine Own.upd ho8 (updCell _ _ _ _) (fun k hk e => ?_);subst e
     rcases hat8 k hk with q | q
     ·
      exact hp q
     ·
      have := hbu.lt; rw [q] at this; simp at this; omega
    ·
     rcases hat8 k h with q | q
     ·
      exact .inl q
     ·
      right; rw [q]; simp
    ·
     exact ((Upd.refl.alloc _).trans hu8 (fun _ _ h => .inr h)).trans (updCell _ _ _ _) (fun _ _ h => .inl h)
def XtV (w : World) (F : Nat → Prop) (A : Option Addr) (T : List (Bs × Nat)) : Prop :=
 T = [] ∨ ∃ b o, A = some ⟨b, o, none⟩ ∧ F b ∧ ∀ i (h : i < T.length), w.cell? ⟨b, o + i * 2, none⟩ = some (.string (kstr T[i].1)) ∧ w.cell? ⟨b, o + i * 2 + 1, none⟩ = some (.int .i64 T[i].2)
section
variable {w w' : World} {F G S : Nat → Prop} {A : Option Addr} {T : List (Bs × Nat)}
theorem XtV.upd (h : XtV w F A T) (u : Upd S w w') (d : ∀ k, k < w.heap.size → F k → ¬ S k) : XtV w' F A T := by
 rcases h with h | ⟨b, o, e, hF, h⟩
 ·
  exact .inl h
 ·
  refine .inr ⟨b, o, e, hF, fun i hi => ?_⟩;obtain ⟨c0, c1⟩ := h i hi;have hb := d b (World.block_lt_of_cell? _ _ c0) hF;exact ⟨cell_upd c0 u hb, cell_upd c1 u hb⟩
theorem XtV.at_ (h : XtV w F A T) {i : Nat} (hi : i < T.length) : ∃ b o, A = some ⟨b, o, none⟩ ∧ F b ∧ b < w.heap.size ∧ w.cell? ⟨b, o + i * 2, none⟩ = some (.string (kstr T[i].1)) ∧ w.cell? ⟨b, o + i * 2 + 1, none⟩ = some (.int .i64 T[i].2) := by
 rcases h with h | ⟨b, o, e, hF, h⟩
 ·
  subst h; simp at hi
 ·
  exact ⟨b, o, e, hF, World.block_lt_of_cell? _ _ (h i hi).1, h i hi⟩
theorem XtV.mono (h : XtV w F A T) (hFG : ∀ k, k < w.heap.size → F k → G k) : XtV w G A T := by
 rcases h with h | ⟨b, o, e, hF, h⟩
 ·
  exact .inl h
 ·
  by_cases hn : T = []
  ·
   exact .inl hn
  ·
   exact .inr ⟨b, o, e, hFG b (World.block_lt_of_cell? _ _ (h 0 (List.length_pos_iff.2 hn)).1) hF, h⟩
end
theorem xtcells_get : ∀ (L : List (Bs × Nat)) (i : Nat) (h : i < L.length), (xtcells L)[i * 2]? = some (.string (kstr L[i].1)) ∧ (xtcells L)[i * 2 + 1]? = some (.int .i64 L[i].2)
 | t :: L, 0, _ => ⟨rfl, rfl⟩
 | t :: L, i + 1, h => by
  have := xtcells_get L i (by simpa using h);rw [show (i + 1) * 2 = i * 2 + 1 + 1 by omega];exact this
theorem xt_view {w : World} {A : Option Addr} {c : Nat} {L : List (Bs × Nat)} (h : Own w 120 2 A L.length c (xtcells L)) : XtV w (At A) A L := by
 rcases Own.cases h with ⟨_, h0, _, _⟩ | ⟨g, cur, rfl, hb, _, _, _, ht⟩
 ·
  exact .inl (List.eq_nil_of_length_eq_zero h0)
 ·
  refine .inr ⟨g, 0, rfl, At.some_.2 rfl, fun i hi => ?_⟩
  have hcell : ∀ j u, (xtcells L)[j]? = some u → w.cell? ⟨g, j, none⟩ = some u := by
   intro j u hj;rw [hb.cell];rw [← ht, List.getElem?_take] at hj
   split at hj
   ·
    simpa using hj
   ·
    cases hj
  obtain ⟨c0, c1⟩ := xtcells_get L i hi;rw [Nat.zero_add];exact ⟨hcell _ _ c0, hcell _ _ c1⟩
structure Xs where
 i : Nat
 why : Int
 ea : Int
 vs : Bs
 ms : Bs
 left : Bool
def Xs.ps (x : Xs) : PS := ⟨x.i, x.vs, x.ms⟩
def xcells (A : Option Addr) (n c fin : Nat) (x : Xs) : Array Value := #[.slice A n c, .int .i64 x.i, .int .i64 fin, .int .i64 x.why, .int .i64 x.ea, .string (kstr x.vs), .string (kstr x.ms), .bool x.left]
structure XdS (w : World) (p : Nat) (A : Option Addr) (c : Nat) (T : List (Bs × Nat)) (fin : Nat) (x : Xs) : Prop where
 blk : Blk w p 88 (xcells A T.length c fin x)
 tok : XtV w (fun k => k < p) A T
 le : T.length ≤ c
section
variable {w w' : World} {p : Nat} {A : Option Addr} {c : Nat} {T : List (Bs × Nat)} {fin : Nat} {x : Xs} {S : Nat → Prop}
theorem XdS.set (h : XdS w p A c T fin x) {y : Xs} (u : Upd (· = p) w w') (b : Blk w' p 88 (xcells A T.length c fin y)) : XdS w' p A c T fin y :=
 ⟨b, h.tok.upd u (fun _ _ hk e => Nat.ne_of_lt hk e), h.le⟩
theorem XdS.upd (h : XdS w p A c T fin x) (u : Upd S w w') (d : ∀ k, k < w.heap.size → S k → p < k) : XdS w' p A c T fin x :=
 ⟨h.blk.upd u (fun s => Nat.lt_irrefl _ (d p h.blk.lt s)), h.tok.upd u (fun k hk hp s => Nat.lt_irrefl _ (Nat.lt_trans hp (d k hk s))), h.le⟩
theorem XdS.non (h : XdS w p A c T fin x) (u : Upd Non w w') : XdS w' p A c T fin x :=
 ⟨h.blk.upd u (fun f => f), h.tok.upd u (fun _ _ _ f => f), h.le⟩
theorem XdS.cells (h : XdS w p A c T fin x) : w.cell? ⟨p, 0, none⟩ = some (.slice A T.length c) ∧ w.cell? ⟨p, 1, none⟩ = some (.int .i64 x.i) ∧ w.cell? ⟨p, 2, none⟩ = some (.int .i64 fin) ∧ w.cell? ⟨p, 3, none⟩ = some (.int .i64 x.why) ∧ w.cell? ⟨p, 4, none⟩ = some (.int .i64 x.ea) ∧ w.cell? ⟨p, 5, none⟩ = some (.string (kstr x.vs)) ∧ w.cell? ⟨p, 6, none⟩ = some (.string (kstr x.ms)) ∧ w.cell? ⟨p, 7, none⟩ = some (.bool x.left) :=
 ⟨h.blk.cell 0, h.blk.cell 1, h.blk.cell 2, h.blk.cell 3, h.blk.cell 4, h.blk.cell 5, h.blk.cell 6, h.blk.cell 7⟩
end
theorem upd_eq {p : Nat} {w w' : World} (u : Upd Non w w') : Upd (· = p) w w' := u.mono (fun _ _ f => f.elim)
theorem xOffset_c {w : World} {p : Nat} {A : Option Addr} {c : Nat} {T : List (Bs × Nat)} {fin : Nat} {x : Xs} (h : XdS w p A c T fin x) :
  Calls Tryz.prog 68 #[.pointer (some ⟨p, 0, none⟩)] w fun e w' => e = .returned (.int .i64 (offF T fin x.i)) ∧ Upd Non w w' := by
 obtain ⟨c0, c1, c2, c3, c4, c5, c6, c7⟩ := h.cells;have hle := h.le;obtain ⟨n, Hn⟩ := nm T.length;rw [Hn.out] at c0 hle;obtain ⟨wD, HwD⟩ := nm w.drew
 have uD : Upd Non w wD := by rw [← HwD.out]; exact Upd.refl.drew
 by_cases hi : x.i < T.length
 ·
  obtain ⟨b, o, rfl, hF, hb, t0, t1⟩ := h.tok.at_ hi
  have HO : Hid (offF T fin x.i = T[x.i].2) := by show _ = _; unfold offF; rw [List.getElem?_eq_getElem hi]
  obtain ⟨r, Hr⟩ := nm (offF T fin x.i);rw [Hr.out] at HO ⊢;rw [← HO.out] at t1;obtain ⟨i, Hi⟩ := nm x.i;rw [Hi.out] at c1 t1
  have hin : i < n := by rw [← Hn.out, ← Hi.out]; exact hi
  have ti : decide (i < n) = true := decide_eq_true (by omega);have d0 := cell_upd c0 uD (fun f => f);have d1 := cell_upd c1 uD (fun f => f);have d2 := cell_upd t1 uD (fun f => f);clear h c2 c3 c4 c5 c6 c7 t0 hi HO;go_enter Tryz.func68, Tryz.ntmps68
  go_wp2_with fail
  refine wp_region_held_drew (S := fun w' => w'.cell? ⟨p, 0, none⟩ = some (.slice (some ⟨b, o, none⟩) n c) ∧ w'.cell? ⟨p, 1, none⟩ = some (.int .i64 i)) (by kernel_rfl) (by rw [HwD.out]; exact ⟨d0, d1⟩) (fun hHeld => ?_)
  rw [HwD.out] at hHeld ⊢;refine wpT 0 ?_
  try simp only [put_y, put_z]
  refine wpT 1 ?_
  try simp only [put_y, put_z]
  refine wpT 2 ?_
  try simp only [put_y, put_z]
  refine wpT 3 ?_
  try simp only [put_y, put_z]
  refine wpT 4 ?_
  try simp only [put_y, put_z]
  refine wpT 5 ?_
  try simp only [put_y, put_z]
  refine wpT 6 ?_
  try simp only [put_y, put_z]
  refine wpT 7 ?_
  try simp only [put_y, put_z]
  refine wpT 8 ?_
  try simp only [put_y, put_z]
  refine wpT 9 ?_
  try simp only [put_y, put_z]
  refine wpAnyH_done (by kernel_rfl) ?_ _
  go_wp2_with fail
  obtain ⟨wE, HwE⟩ := nm wD.drew
  have uE : Upd Non wD wE := by rw [← HwE.out]; exact Upd.refl.drew
  refine wp_region_held_drew (S := fun w' => w'.cell? ⟨p, 0, none⟩ = some (.slice (some ⟨b, o, none⟩) n c) ∧ w'.cell? ⟨p, 1, none⟩ = some (.int .i64 i) ∧ w'.cell? ⟨b, o + i * 2 + 1, none⟩ = some (.int .i64 r)) (by kernel_rfl) (by rw [HwE.out]; exact ⟨cell_upd d0 uE (fun f => f), cell_upd d1 uE (fun f => f), cell_upd d2 uE (fun f => f)⟩) (fun hHeld2 => ?_)
  rw [HwE.out] at hHeld2 ⊢;refine wpT 0 ?_
  try simp only [put_y, put_z]
  refine wpT 1 ?_
  try simp only [put_y, put_z]
  refine wpT 2 ?_
  try simp only [put_y, put_z]
  refine wpT 3 ?_
  try simp only [put_y, put_z]
  refine wpT 4 ?_
  try simp only [put_y, put_z]
  refine wpT 5 ?_
  try simp only [put_y, put_z]
  refine wpT 6 ?_
  try simp only [put_y, put_z]
  refine wpT 7 ?_
  try simp only [put_y, put_z]
  refine wpT 8 ?_
  try simp only [put_y, put_z]
  refine wpT 9 ?_
  try simp only [put_y, put_z]
  refine wpT 10 ?_
  try simp only [put_y, put_z]
  refine wpT 11 ?_
  try simp only [put_y, put_z]
  refine wpAnyH_done (by kernel_rfl) ?_ _
  go_wp2_with fail
  go_ret;exact ⟨rfl, uD.then_non uE⟩
 ·
  have HO : Hid (offF T fin x.i = fin) := by show _ = _; unfold offF; rw [List.getElem?_eq_none (by omega)]
  rw [HO.out];obtain ⟨i, Hi⟩ := nm x.i;rw [Hi.out] at c1
  have hin : ¬ i < n := by rw [← Hn.out, ← Hi.out]; exact hi
  have ti : decide (i < n) = false := decide_eq_false (by omega);have d0 := cell_upd c0 uD (fun f => f);have d1 := cell_upd c1 uD (fun f => f);have d2 := cell_upd c2 uD (fun f => f);clear h c3 c4 c5 c6 c7 hi HO hin;go_enter Tryz.func68, Tryz.ntmps68
  go_wp2_with fail
  refine wp_region_held_drew (S := fun w' => w'.cell? ⟨p, 0, none⟩ = some (.slice A n c) ∧ w'.cell? ⟨p, 1, none⟩ = some (.int .i64 i)) (by kernel_rfl) (by rw [HwD.out]; exact ⟨d0, d1⟩) (fun hHeld => ?_)
  rw [HwD.out] at hHeld ⊢;refine wpT 0 ?_
  try simp only [put_y, put_z]
  refine wpT 1 ?_
  try simp only [put_y, put_z]
  refine wpT 2 ?_
  try simp only [put_y, put_z]
  refine wpT 3 ?_
  try simp only [put_y, put_z]
  refine wpT 4 ?_
  try simp only [put_y, put_z]
  refine wpT 5 ?_
  try simp only [put_y, put_z]
  refine wpT 6 ?_
  try simp only [put_y, put_z]
  refine wpT 7 ?_
  try simp only [put_y, put_z]
  refine wpT 8 ?_
  try simp only [put_y, put_z]
  refine wpT 9 ?_
  try simp only [put_y, put_z]
  refine wpAnyH_done (by kernel_rfl) ?_ _
  go_wp2_with fail
  go_ret;exact ⟨rfl, uD⟩
def Xs.fail (x : Xs) (why ea : Int) : Xs := if x.why = 0 then { x with why := why, ea := ea } else x
theorem xFail_c {w : World} {p : Nat} {A : Option Addr} {c : Nat} {T : List (Bs × Nat)} {fin : Nat} {x : Xs} (h : XdS w p A c T fin x) (why ea : Int) :
  Calls Tryz.prog 67 #[.pointer (some ⟨p, 0, none⟩), .int .i64 why, .int .i64 ea] w fun e w' => e = .returned (.tuple #[]) ∧ XdS w' p A c T fin (x.fail why ea) ∧ Upd (· = p) w w' := by
 obtain ⟨c0, c1, c2, c3, c4, c5, c6, c7⟩ := h.cells;have hf := h.blk.frozen;have H := Lib.hid h;obtain ⟨n, Hn⟩ := nm x.why;rw [Hn.out] at c3;clear h
 by_cases hz : n = 0
 ·
  have e : x.fail why ea = { x with why := why, ea := ea } := if_pos (by rw [Hn.out]; exact hz);subst hz;go_enter Tryz.func67, Tryz.ntmps67
  go_wp2_with fail
  go_end0
  refine ⟨rfl, ?_, (updCell _ _ _ _).trans (updCell _ _ _ _) (fun _ _ h => h)⟩;rw [e];refine H.out.set ((updCell _ _ _ _).trans (updCell _ _ _ _) (fun _ _ h => h)) ?_;have := (H.out.blk.set_ 3 (.int .i64 why)).set_ 4 (.int .i64 ea)
  simpa [xcells] using this
 ·
  have e : x.fail why ea = x := if_neg (by rw [Hn.out]; exact hz)
  have fz : (n == 0) = false := by simpa using hz
  go_enter Tryz.func67, Tryz.ntmps67
  go_wp2_with fail
  go_end0
  exact ⟨rfl, by rw [e]; exact H.out, Upd.refl⟩
def nxS (T : List (Bs × Nat)) (x : Xs) : Bs := if x.why = 0 then (tkF T x.i).getD [] else []
def nxY (T : List (Bs × Nat)) (fin : Nat) (x : Xs) : Xs := if x.why = 0 ∧ x.i < T.length then { x with i := x.i + 1 } else x.fail 2 (offF T fin x.i)
set_option maxHeartbeats 2000000 in
theorem xNext_c {w : World} {p : Nat} {A : Option Addr} {c : Nat} {T : List (Bs × Nat)} {fin : Nat} {x : Xs} (h : XdS w p A c T fin x) (hi : x.i ≤ 100000) :
  Calls Tryz.prog 69 #[.pointer (some ⟨p, 0, none⟩)] w fun e w' => e = .returned (.string (kstr (nxS T x))) ∧ XdS w' p A c T fin (nxY T fin x) ∧ Upd (· = p) w w' := by
 obtain ⟨c0, c1, c2, c3, c4, c5, c6, c7⟩ := h.cells;have hle := h.le;obtain ⟨wD, HwD⟩ := nm w.drew
 have uD : Upd Non w wD := by rw [← HwD.out]; exact Upd.refl.drew
 have hD := h.non uD;have CO := Lib.hid (xOffset_c hD);have CF := Lib.hid (fun W (u : Upd Non wD W) => xFail_c (hD.non u) 2 (offF T fin x.i));have H := Lib.hid h;have HD := Lib.hid hD;have HS : Hid (nxS T x = if x.why = 0 then (tkF T x.i).getD [] else []) := rfl;have HY : Hid (nxY T fin x = if x.why = 0 ∧ x.i < T.length then { x with i := x.i + 1 } else x.fail 2 (offF T fin x.i)) := rfl
 by_cases hi2 : x.why = 0 ∧ x.i < T.length
 ·
  have HY2 : Hid (nxY T fin x = { x with i := x.i + 1 }) := by show _ = _; rw [HY.out, if_pos hi2]
  have HS2 : Hid (nxS T x = T[x.i].1) := by show _ = _; rw [HS.out, if_pos hi2.1]; unfold tkF; rw [List.getElem?_eq_getElem hi2.2]; rfl
  obtain ⟨b, o, rfl, hF, hb, t0, t1⟩ := h.tok.at_ hi2.2;rw [HS2.out];rw [hi2.1] at c3;generalize T[x.i].1 = s at *;have hit := hi2.2;obtain ⟨n, Hn⟩ := nm T.length;rw [Hn.out] at c0 hle hit;obtain ⟨i, Hi⟩ := nm x.i;rw [Hi.out] at c1 hi t0 hit;have ti : decide (n ≤ i) = false := decide_eq_false (by omega);have wi : IntKind.i64.wrap (i : Int) = (i : Int) := i64w_of (by unfold I64; omega)
  have d0 := cell_upd c0 uD (fun f => f);have d1 := cell_upd c1 uD (fun f => f);have d3 := cell_upd c3 uD (fun f => f);have dt := cell_upd t0 uD (fun f => f);have df := hD.blk.frozen;obtain ⟨W1, HW1⟩ := nm (wD.setCell ⟨p, 1, none⟩ (.int .i64 ((i : Int) + 1)))
  have u1 : Upd (· = p) wD W1 := by rw [← HW1.out]; exact updCell _ _ _ _
  have hY : XdS W1 p (some ⟨b, o, none⟩) c T fin (nxY T fin x) := by
   rw [HY2.out];refine hD.set u1 ?_;have := hD.blk.set_ 1 (.int .i64 ((i : Int) + 1));rw [HW1.out] at this
   simpa [xcells, Hi.out] using this
  have HYY := Lib.hid hY;have e0 := (HYY.out.cells).1;have e1 := (HYY.out.cells).2.1;rw [HY2.out, Hi.out, show ((i + 1 : Nat) : Int) = (i : Int) + 1 by omega] at e1;rw [Hn.out] at e0;have et := cell_upd dt u1 (Nat.ne_of_lt hF);have E1 := HW1.out;clear h hD c0 c1 c2 c3 c4 c5 c6 c7 t0 t1 CO CF hY HS HY;go_enter Tryz.func69, Tryz.ntmps69
  go_wp2_with fail
  refine wp_region_held_drew (S := fun w' => w'.cell? ⟨p, 0, none⟩ = some (.slice (some ⟨b, o, none⟩) n c) ∧ w'.cell? ⟨p, 1, none⟩ = some (.int .i64 i) ∧ w'.cell? ⟨p, 3, none⟩ = some (.int .i64 0)) (by kernel_rfl) (by rw [HwD.out]; exact ⟨d0, d1, d3⟩) (fun hHeld => ?_)
  rw [HwD.out] at hHeld ⊢;refine wpT 0 ?_
  try simp only [put_y, put_z]
  refine wpT 1 ?_
  try simp only [put_y, put_z]
  refine wpT 2 ?_
  try simp only [put_y, put_z]
  refine wpT 3 ?_
  try simp only [put_y, put_z]
  refine wpT 4 ?_
  try simp only [put_y, put_z]
  refine wpT 5 ?_
  try simp only [put_y, put_z]
  refine wpT 6 ?_
  try simp only [put_y, put_z]
  refine wpT 7 ?_
  try simp only [put_y, put_z]
  refine wpT 8 ?_
  try simp only [put_y, put_z]
  refine wpT 9 ?_
  try simp only [put_y, put_z]
  refine wpT 10 ?_
  try simp only [put_y, put_z]
  refine wpT 11 ?_
  try simp only [put_y, put_z]
  refine wpT 12 ?_
  try simp only [put_y, put_z]
  refine wpT 13 ?_
  try simp only [put_y, put_z]
  refine wpT 14 ?_
  try simp only [put_y, put_z]
  refine wpT 15 ?_
  try simp only [put_y, put_z]
  refine wpT 16 ?_
  try simp only [put_y, put_z]
  refine wpT 17 ?_
  try simp only [put_y, put_z]
  refine wpAnyH_done (by kernel_rfl) ?_ _
  go_wp2_with fail
  obtain ⟨wE, HwE⟩ := nm W1.drew
  have uE : Upd Non W1 wE := by rw [← HwE.out]; exact Upd.refl.drew
  refine wp_region_held_drew (S := fun w' => w'.cell? ⟨p, 0, none⟩ = some (.slice (some ⟨b, o, none⟩) n c) ∧ w'.cell? ⟨p, 1, none⟩ = some (.int .i64 ((i : Int) + 1)) ∧ w'.cell? ⟨b, o + i * 2, none⟩ = some (.string (kstr s))) (by kernel_rfl) (by rw [HwE.out]; exact ⟨cell_upd e0 uE (fun f => f), cell_upd e1 uE (fun f => f), cell_upd et uE (fun f => f)⟩) (fun hHeld2 => ?_)
  rw [HwE.out] at hHeld2 ⊢;refine wpT 0 ?_
  try simp only [put_y, put_z]
  refine wpT 1 ?_
  try simp only [put_y, put_z]
  refine wpT 2 ?_
  try simp only [put_y, put_z]
  refine wpT 3 ?_
  try simp only [put_y, put_z]
  refine wpT 4 ?_
  try simp only [put_y, put_z]
  refine wpT 5 ?_
  try simp only [put_y, put_z]
  refine wpT 6 ?_
  try simp only [put_y, put_z]
  refine wpT 7 ?_
  try simp only [put_y, put_z]
  refine wpT 8 ?_
  try simp only [put_y, put_z]
  refine wpT 9 ?_
  try simp only [put_y, put_z]
  refine wpT 10 ?_
  try simp only [put_y, put_z]
  refine wpT 11 ?_
  try simp only [put_y, put_z]
  refine wpT 12 ?_
  try simp only [put_y, put_z]
  refine wpAnyH_done (by kernel_rfl) ?_ _
  go_wp2_with fail
  go_ret;exact ⟨rfl, HYY.out.non uE, ((upd_eq uD).trans u1 (fun _ _ h => h)).then_non uE⟩
 ·
  have HY2 : Hid (nxY T fin x = x.fail 2 (offF T fin x.i)) := by show _ = _; rw [HY.out, if_neg hi2]
  have HS2 : Hid (nxS T x = []) := by
   show _ = _;rw [HS.out]
   split
   ·
    rename_i q;unfold tkF;rw [List.getElem?_eq_none (by have : ¬ x.i < T.length := fun r => hi2 ⟨q, r⟩; omega)];rfl
   ·
    rfl
  rw [HS2.out];have e : kstr [] = ({ data := #[] } : ByteArray) := rfl;rw [e];have HNW : Hid (¬ (x.why = 0 ∧ x.i < T.length)) := hi2;obtain ⟨r, Hr⟩ := nm (offF T fin x.i);rw [Hr.out] at CO CF HY2;obtain ⟨n, Hn⟩ := nm T.length;rw [Hn.out] at c0 hle HNW;obtain ⟨i, Hi⟩ := nm x.i;rw [Hi.out] at c1 hi HNW;obtain ⟨z, Hz⟩ := nm x.why;rw [Hz.out] at c3 HNW;have d0 := cell_upd c0 uD (fun f => f)
  have d1 := cell_upd c1 uD (fun f => f);have d3 := cell_upd c3 uD (fun f => f);clear h hD c0 c1 c2 c3 c4 c5 c6 c7 HS HY hi2 e
  by_cases hz : z = 0
  ·
   subst hz
   have hge : ¬ i < n := fun q => HNW.out ⟨rfl, q⟩
   have ti : decide (n ≤ i) = true := decide_eq_true (by omega);clear hge;go_enter Tryz.func69, Tryz.ntmps69
   go_wp2_with fail
   refine wp_region_held_drew (S := fun w' => w'.cell? ⟨p, 0, none⟩ = some (.slice A n c) ∧ w'.cell? ⟨p, 1, none⟩ = some (.int .i64 i) ∧ w'.cell? ⟨p, 3, none⟩ = some (.int .i64 0)) (by kernel_rfl) (by rw [HwD.out]; exact ⟨d0, d1, d3⟩) (fun hHeld => ?_)
   rw [HwD.out] at hHeld ⊢;refine wpT 0 ?_
   try simp only [put_y, put_z]
   refine wpT 1 ?_
   try simp only [put_y, put_z]
   refine wpT 2 ?_
   try simp only [put_y, put_z]
   refine wpT 3 ?_
   try simp only [put_y, put_z]
   refine wpT 4 ?_
   try simp only [put_y, put_z]
   refine wpT 5 ?_
   try simp only [put_y, put_z]
   refine wpT 6 ?_
   try simp only [put_y, put_z]
   refine wpT 7 ?_
   try simp only [put_y, put_z]
   refine wpT 8 ?_
   try simp only [put_y, put_z]
   refine wpT 9 ?_
   try simp only [put_y, put_z]
   refine wpT 10 ?_
   try simp only [put_y, put_z]
   refine wpT 11 ?_
   try simp only [put_y, put_z]
   refine wpT 12 ?_
   try simp only [put_y, put_z]
   refine wpT 13 ?_
   try simp only [put_y, put_z]
   refine wpT 14 ?_
   try simp only [put_y, put_z]
   refine wpT 15 ?_
   try simp only [put_y, put_z]
   refine wpT 16 ?_
   try simp only [put_y, put_z]
   refine wpT 17 ?_
   try simp only [put_y, put_z]
   refine wpAnyH_done (by kernel_rfl) ?_ _
   go_wp2_with fail
   refine CO.out.mono ?_;rintro e w3 ⟨rfl, u3⟩;have CF3 := Lib.hid (CF.out _ u3)
   go_wp2_with fail
   refine CF3.out.mono ?_;rintro e w4 ⟨rfl, h4, u4⟩
   go_wp2_with fail
   go_ret;exact ⟨rfl, by rw [HY2.out]; exact h4, (upd_eq (uD.then_non u3)).trans u4 (fun _ _ h => h)⟩
  ·
   have fz : (z != 0) = true := by simpa using hz
   clear hz;go_enter Tryz.func69, Tryz.ntmps69
   go_wp2_with fail
   refine wp_region_held_drew (S := fun w' => w'.cell? ⟨p, 0, none⟩ = some (.slice A n c) ∧ w'.cell? ⟨p, 1, none⟩ = some (.int .i64 i) ∧ w'.cell? ⟨p, 3, none⟩ = some (.int .i64 z)) (by kernel_rfl) (by rw [HwD.out]; exact ⟨d0, d1, d3⟩) (fun hHeld => ?_)
   rw [HwD.out] at hHeld ⊢;refine wpT 0 ?_
   try simp only [put_y, put_z]
   refine wpT 1 ?_
   try simp only [put_y, put_z]
   refine wpT 2 ?_
   try simp only [put_y, put_z]
   refine wpT 3 ?_
   try simp only [put_y, put_z]
   refine wpT 4 ?_
   try simp only [put_y, put_z]
   refine wpT 5 ?_
   try simp only [put_y, put_z]
   refine wpT 6 ?_
   try simp only [put_y, put_z]
   refine wpU 7 ?_
   try simp only [put_y, put_z]
   refine wpU 8 ?_
   try simp only [put_y, put_z]
   refine wpU 9 ?_
   try simp only [put_y, put_z]
   refine wpU 10 ?_
   try simp only [put_y, put_z]
   refine wpU 11 ?_
   try simp only [put_y, put_z]
   refine wpU 12 ?_
   try simp only [put_y, put_z]
   refine wpU 13 ?_
   try simp only [put_y, put_z]
   refine wpU 14 ?_
   try simp only [put_y, put_z]
   refine wpU 15 ?_
   try simp only [put_y, put_z]
   refine wpU 16 ?_
   try simp only [put_y, put_z]
   refine wpT 17 ?_
   try simp only [put_y, put_z]
   refine wpAnyH_done (by kernel_rfl) ?_ _
   go_wp2_with fail
   refine CO.out.mono ?_;rintro e w3 ⟨rfl, u3⟩;have CF3 := Lib.hid (CF.out _ u3)
   go_wp2_with fail
   refine CF3.out.mono ?_;rintro e w4 ⟨rfl, h4, u4⟩
   go_wp2_with fail
   go_ret;exact ⟨rfl, by rw [HY2.out]; exact h4, (upd_eq (uD.then_non u3)).trans u4 (fun _ _ h => h)⟩
set_option maxHeartbeats 2000000 in
theorem xAt_c {w : World} {p : Nat} {A : Option Addr} {c : Nat} {T : List (Bs × Nat)} {fin : Nat} {x : Xs} (h : XdS w p A c T fin x) (s : Bs) :
  Calls Tryz.prog 66 #[.pointer (some ⟨p, 0, none⟩), .string (kstr s)] w fun e w' => e = .returned (.bool (x.why == 0 && decide (tkF T x.i = some s))) ∧ Upd Non w w' := by
 obtain ⟨c0, c1, c2, c3, c4, c5, c6, c7⟩ := h.cells;have hle := h.le;obtain ⟨wD, HwD⟩ := nm w.drew
 have uD : Upd Non w wD := by rw [← HwD.out]; exact Upd.refl.drew
 obtain ⟨R, HR⟩ := nm (x.why == 0 && decide (tkF T x.i = some s));rw [HR.out];obtain ⟨q, Hq⟩ := nm (kstr s);have c0 := cell_upd c0 uD (fun f => f);have c1 := cell_upd c1 uD (fun f => f);have c3 := cell_upd c3 uD (fun f => f)
 by_cases hi : x.i < T.length
 ·
  obtain ⟨b, o, rfl, hF, hb, t0, t1⟩ := h.tok.at_ hi;have t0 := cell_upd t0 uD (fun f => f)
  have e : tkF T x.i = some T[x.i].1 := by unfold tkF; rw [List.getElem?_eq_getElem hi]; rfl
  rw [e] at HR;generalize T[x.i].1 = t at *;obtain ⟨D, HD⟩ := nm (decide (t = s))
  have hD : ((kstr t).toList == (kstr s).toList) = D := by rw [str_beq, HD.out]
  have HR2 : Hid ((x.why == 0 && D) = R) := by
   show _ = _;rw [← HR.out, ← HD.out];simp
  rw [Hq.out] at hD ⊢;obtain ⟨qt, Hqt⟩ := nm (kstr t);rw [Hqt.out] at hD t0;obtain ⟨n, Hn⟩ := nm T.length;rw [Hn.out] at c0 hle hi;obtain ⟨i, Hi⟩ := nm x.i;rw [Hi.out] at c1 hi t0;obtain ⟨z, Hz⟩ := nm x.why;rw [Hz.out] at c3 HR2;have ti : decide (i < n) = true := decide_eq_true (by omega);clear h c2 c4 c5 c6 c7 t1 e HR;go_enter Tryz.func66, Tryz.ntmps66
  go_wp2_with fail
  refine wp_region_held_drew (S := fun w' => w'.cell? ⟨p, 0, none⟩ = some (.slice (some ⟨b, o, none⟩) n c) ∧ w'.cell? ⟨p, 1, none⟩ = some (.int .i64 i) ∧ w'.cell? ⟨p, 3, none⟩ = some (.int .i64 z) ∧ w'.cell? ⟨b, o + i * 2, none⟩ = some (.string qt)) (by kernel_rfl) (by rw [HwD.out]; exact ⟨c0, c1, c3, t0⟩) (fun hHeld => ?_)
  rw [HwD.out] at hHeld ⊢
  by_cases hz : z = 0
  ·
   subst hz
   obtain rfl : D = R := by rw [← HR2.out]; rfl
   refine wpT 0 ?_
   try simp only [put_y, put_z]
   refine wpT 1 ?_
   try simp only [put_y, put_z]
   refine wpT 2 ?_
   try simp only [put_y, put_z]
   refine wpT 3 ?_
   try simp only [put_y, put_z]
   refine wpT 4 ?_
   try simp only [put_y, put_z]
   refine wpT 5 ?_
   try simp only [put_y, put_z]
   refine wpT 6 ?_
   try simp only [put_y, put_z]
   refine wpT 7 ?_
   try simp only [put_y, put_z]
   refine wpT 8 ?_
   try simp only [put_y, put_z]
   refine wpT 9 ?_
   try simp only [put_y, put_z]
   refine wpT 10 ?_
   try simp only [put_y, put_z]
   refine wpT 11 ?_
   try simp only [put_y, put_z]
   refine wpT 12 ?_
   try simp only [put_y, put_z]
   refine wpT 13 ?_
   try simp only [put_y, put_z]
   refine wpT 14 ?_
   try simp only [put_y, put_z]
   refine wpT 15 ?_
   try simp only [put_y, put_z]
   refine wpT 16 ?_
   try simp only [put_y, put_z]
   refine wpT 17 ?_
   try simp only [put_y, put_z]
   refine wpT 18 ?_
   try simp only [put_y, put_z]
   refine wpT 19 ?_
   try simp only [put_y, put_z]
   refine wpT 20 ?_
   try simp only [put_y, put_z]
   refine wpT 21 ?_
   try simp only [put_y, put_z]
   refine wpT 22 ?_
   try simp only [put_y, put_z]
   refine wpT 23 ?_
   try simp only [put_y, put_z]
   refine wpT 24 ?_
   try simp only [put_y, put_z]
   refine wpT 25 ?_
   try simp only [put_y, put_z]
   refine wpT 26 ?_
   try simp only [put_y, put_z]
   refine wpT 27 ?_
   try simp only [put_y, put_z]
   refine wpT 28 ?_
   try simp only [put_y, put_z]
   refine wpT 29 ?_
   try simp only [put_y, put_z]
   refine wpT 30 ?_
   try simp only [put_y, put_z]
   refine wpT 31 ?_
   try simp only [put_y, put_z]
   refine wpT 32 ?_
   try simp only [put_y, put_z]
   refine wpT 33 ?_
   try simp only [put_y, put_z]
   refine wpAnyH_done (by kernel_rfl) ?_ _
   go_wp2_with fail
   go_ret;exact ⟨rfl, uD⟩
  ·
   have fz : (z == 0) = false := by simpa using hz
   obtain rfl : R = false := by rw [← HR2.out, fz]; rfl
   refine wpT 0 ?_
   try simp only [put_y, put_z]
   refine wpT 1 ?_
   try simp only [put_y, put_z]
   refine wpT 2 ?_
   try simp only [put_y, put_z]
   refine wpT 3 ?_
   try simp only [put_y, put_z]
   refine wpT 4 ?_
   try simp only [put_y, put_z]
   refine wpT 5 ?_
   try simp only [put_y, put_z]
   refine wpT 6 ?_
   try simp only [put_y, put_z]
   refine wpU 7 ?_
   try simp only [put_y, put_z]
   refine wpU 8 ?_
   try simp only [put_y, put_z]
   refine wpU 9 ?_
   try simp only [put_y, put_z]
   refine wpU 10 ?_
   try simp only [put_y, put_z]
   refine wpU 11 ?_
   try simp only [put_y, put_z]
   refine wpU 12 ?_
   try simp only [put_y, put_z]
   refine wpU 13 ?_
   try simp only [put_y, put_z]
   refine wpU 14 ?_
   try simp only [put_y, put_z]
   refine wpU 15 ?_
   try simp only [put_y, put_z]
   refine wpU 16 ?_
   try simp only [put_y, put_z]
   refine wpT 17 ?_
   try simp only [put_y, put_z]
   refine wpT 18 ?_
   try simp only [put_y, put_z]
   refine wpU 19 ?_
   try simp only [put_y, put_z]
   refine wpU 20 ?_
   try simp only [put_y, put_z]
   refine wpU 21 ?_
   try simp only [put_y, put_z]
   refine wpU 22 ?_
   try simp only [put_y, put_z]
   refine wpU 23 ?_
   try simp only [put_y, put_z]
   refine wpU 24 ?_
   try simp only [put_y, put_z]
   refine wpU 25 ?_
   try simp only [put_y, put_z]
   refine wpU 26 ?_
   try simp only [put_y, put_z]
   refine wpU 27 ?_
   try simp only [put_y, put_z]
   refine wpU 28 ?_
   try simp only [put_y, put_z]
   refine wpU 29 ?_
   try simp only [put_y, put_z]
   refine wpU 30 ?_
   try simp only [put_y, put_z]
   refine wpU 31 ?_
   try simp only [put_y, put_z]
   refine wpT 32 ?_
   try simp only [put_y, put_z]
   refine wpT 33 ?_
   try simp only [put_y, put_z]
   refine wpAnyH_done (by kernel_rfl) ?_ _
   go_wp2_with fail
   go_ret;exact ⟨rfl, uD⟩
 ·
  have e : tkF T x.i = none := by unfold tkF; rw [List.getElem?_eq_none (by omega)]; rfl
  rw [e] at HR
  obtain rfl : R = false := by rw [← HR.out]; simp
  rw [Hq.out];obtain ⟨n, Hn⟩ := nm T.length;rw [Hn.out] at c0 hle hi;obtain ⟨i, Hi⟩ := nm x.i;rw [Hi.out] at c1 hi;obtain ⟨z, Hz⟩ := nm x.why;rw [Hz.out] at c3;have ti : decide (i < n) = false := decide_eq_false (by omega);clear h c2 c4 c5 c6 c7 e HR hi;go_enter Tryz.func66, Tryz.ntmps66
  go_wp2_with fail
  refine wp_region_held_drew (S := fun w' => w'.cell? ⟨p, 0, none⟩ = some (.slice A n c) ∧ w'.cell? ⟨p, 1, none⟩ = some (.int .i64 i) ∧ w'.cell? ⟨p, 3, none⟩ = some (.int .i64 z)) (by kernel_rfl) (by rw [HwD.out]; exact ⟨c0, c1, c3⟩) (fun hHeld => ?_)
  rw [HwD.out] at hHeld ⊢
  by_cases hz : z = 0
  ·
   subst hz;refine wpT 0 ?_
   try simp only [put_y, put_z]
   refine wpT 1 ?_
   try simp only [put_y, put_z]
   refine wpT 2 ?_
   try simp only [put_y, put_z]
   refine wpT 3 ?_
   try simp only [put_y, put_z]
   refine wpT 4 ?_
   try simp only [put_y, put_z]
   refine wpT 5 ?_
   try simp only [put_y, put_z]
   refine wpT 6 ?_
   try simp only [put_y, put_z]
   refine wpT 7 ?_
   try simp only [put_y, put_z]
   refine wpT 8 ?_
   try simp only [put_y, put_z]
   refine wpT 9 ?_
   try simp only [put_y, put_z]
   refine wpT 10 ?_
   try simp only [put_y, put_z]
   refine wpT 11 ?_
   try simp only [put_y, put_z]
   refine wpT 12 ?_
   try simp only [put_y, put_z]
   refine wpT 13 ?_
   try simp only [put_y, put_z]
   refine wpT 14 ?_
   try simp only [put_y, put_z]
   refine wpT 15 ?_
   try simp only [put_y, put_z]
   refine wpT 16 ?_
   try simp only [put_y, put_z]
   refine wpT 17 ?_
   try simp only [put_y, put_z]
   refine wpT 18 ?_
   try simp only [put_y, put_z]
   refine wpU 19 ?_
   try simp only [put_y, put_z]
   refine wpU 20 ?_
   try simp only [put_y, put_z]
   refine wpU 21 ?_
   try simp only [put_y, put_z]
   refine wpU 22 ?_
   try simp only [put_y, put_z]
   refine wpU 23 ?_
   try simp only [put_y, put_z]
   refine wpU 24 ?_
   try simp only [put_y, put_z]
   refine wpU 25 ?_
   try simp only [put_y, put_z]
   refine wpU 26 ?_
   try simp only [put_y, put_z]
   refine wpU 27 ?_
   try simp only [put_y, put_z]
   refine wpU 28 ?_
   try simp only [put_y, put_z]
   refine wpU 29 ?_
   try simp only [put_y, put_z]
   refine wpU 30 ?_
   try simp only [put_y, put_z]
   refine wpU 31 ?_
   try simp only [put_y, put_z]
   refine wpT 32 ?_
   try simp only [put_y, put_z]
   refine wpT 33 ?_
   try simp only [put_y, put_z]
   refine wpAnyH_done (by kernel_rfl) ?_ _
   go_wp2_with fail
   go_ret;exact ⟨rfl, uD⟩
  ·
   have fz : (z == 0) = false := by simpa using hz
   refine wpT 0 ?_
   try simp only [put_y, put_z]
   refine wpT 1 ?_
   try simp only [put_y, put_z]
   refine wpT 2 ?_
   try simp only [put_y, put_z]
   refine wpT 3 ?_
   try simp only [put_y, put_z]
   refine wpT 4 ?_
   try simp only [put_y, put_z]
   refine wpT 5 ?_
   try simp only [put_y, put_z]
   refine wpT 6 ?_
   try simp only [put_y, put_z]
   refine wpU 7 ?_
   try simp only [put_y, put_z]
   refine wpU 8 ?_
   try simp only [put_y, put_z]
   refine wpU 9 ?_
   try simp only [put_y, put_z]
   refine wpU 10 ?_
   try simp only [put_y, put_z]
   refine wpU 11 ?_
   try simp only [put_y, put_z]
   refine wpU 12 ?_
   try simp only [put_y, put_z]
   refine wpU 13 ?_
   try simp only [put_y, put_z]
   refine wpU 14 ?_
   try simp only [put_y, put_z]
   refine wpU 15 ?_
   try simp only [put_y, put_z]
   refine wpU 16 ?_
   try simp only [put_y, put_z]
   refine wpT 17 ?_
   try simp only [put_y, put_z]
   refine wpT 18 ?_
   try simp only [put_y, put_z]
   refine wpU 19 ?_
   try simp only [put_y, put_z]
   refine wpU 20 ?_
   try simp only [put_y, put_z]
   refine wpU 21 ?_
   try simp only [put_y, put_z]
   refine wpU 22 ?_
   try simp only [put_y, put_z]
   refine wpU 23 ?_
   try simp only [put_y, put_z]
   refine wpU 24 ?_
   try simp only [put_y, put_z]
   refine wpU 25 ?_
   try simp only [put_y, put_z]
   refine wpU 26 ?_
   try simp only [put_y, put_z]
   refine wpU 27 ?_
   try simp only [put_y, put_z]
   refine wpU 28 ?_
   try simp only [put_y, put_z]
   refine wpU 29 ?_
   try simp only [put_y, put_z]
   refine wpU 30 ?_
   try simp only [put_y, put_z]
   refine wpU 31 ?_
   try simp only [put_y, put_z]
   refine wpT 32 ?_
   try simp only [put_y, put_z]
   refine wpT 33 ?_
   try simp only [put_y, put_z]
   refine wpAnyH_done (by kernel_rfl) ?_ _
   go_wp2_with fail
   go_ret;exact ⟨rfl, uD⟩
def exY (T : List (Bs × Nat)) (fin : Nat) (s : Bs) (x : Xs) : Xs := if x.why = 0 ∧ tkF T x.i = some s then { x with i := x.i + 1 } else x.fail 2 (offF T fin x.i)
theorem xExpect_c {w : World} {p : Nat} {A : Option Addr} {c : Nat} {T : List (Bs × Nat)} {fin : Nat} {x : Xs} (h : XdS w p A c T fin x) (s : Bs) (hi : x.i ≤ 100000) :
  Calls Tryz.prog 71 #[.pointer (some ⟨p, 0, none⟩), .string (kstr s)] w fun e w' => e = .returned (.tuple #[]) ∧ XdS w' p A c T fin (exY T fin s x) ∧ Upd (· = p) w w' := by
 have CA := Lib.hid (xAt_c h s);have CO := Lib.hid (fun W (u : Upd Non w W) => xOffset_c (h.non u));have CF := Lib.hid (fun W (u : Upd Non w W) => xFail_c (h.non u) 2 (offF T fin x.i));have H := Lib.hid h;have HE : Hid (exY T fin s x = if x.why = 0 ∧ tkF T x.i = some s then { x with i := x.i + 1 } else x.fail 2 (offF T fin x.i)) := rfl;obtain ⟨Y, HY⟩ := nm (exY T fin s x);rw [HY.out] at HE ⊢
 obtain ⟨D, HD⟩ := nm (x.why == 0 && decide (tkF T x.i = some s));rw [HD.out] at CA;obtain ⟨r, Hr⟩ := nm (offF T fin x.i);rw [Hr.out] at CO CF HE;obtain ⟨q, Hq⟩ := nm (kstr s);rw [Hq.out] at CA ⊢;clear h
 cases D with
 | false =>
  have HY2 : Hid (Y = x.fail 2 r) := by
   show _ = _;rw [HE.out, if_neg];intro ⟨h1, h2⟩;have := HD.out;rw [h1, h2] at this;simp at this
  clear HE HD HY;go_enter Tryz.func71, Tryz.ntmps71
  go_wp2_with fail
  refine CA.out.mono ?_;rintro e w2 ⟨rfl, u2⟩;have CO2 := Lib.hid (CO.out _ u2)
  go_wp2_with fail
  refine CO2.out.mono ?_;rintro e w3 ⟨rfl, u3⟩;have CF3 := Lib.hid (CF.out _ (u2.then_non u3))
  go_wp2_with fail
  refine CF3.out.mono ?_;rintro e w4 ⟨rfl, h4, u4⟩
  go_wp2_with fail
  refine bodyPost_ret (results_none rfl _ _ _) rfl ?_;exact ⟨rfl, by rw [HY2.out]; exact h4, (upd_eq (u2.then_non u3)).trans u4 (fun _ _ h => h)⟩
 | true =>
  have HY2 : Hid (Y = { x with i := x.i + 1 }) := by
   show _ = _;have hd := HD.out;simp only [Bool.and_eq_true, beq_iff_eq, decide_eq_true_eq] at hd;rw [HE.out, if_pos hd]
  clear HE HD CO CF HY;go_enter Tryz.func71, Tryz.ntmps71
  go_wp2_with fail
  refine CA.out.mono ?_;rintro e w2 ⟨rfl, u2⟩;have h2 := H.out.non u2;obtain ⟨c0, c1, c2, c3, c4, c5, c6, c7⟩ := h2.cells;have cf := h2.blk.frozen;have H2 := Lib.hid h2;obtain ⟨i, Hi⟩ := nm x.i;rw [Hi.out] at c1 hi;clear h2 CA
  go_wp2_with fail
  go_end0
  refine ⟨rfl, ?_, (upd_eq u2).trans (updCell _ _ _ _) (fun _ _ h => h)⟩;rw [HY2.out];refine H2.out.set (updCell _ _ _ _) ?_;have := H2.out.blk.set_ 1 (.int .i64 ((i : Int) + 1))
  simpa [xcells, Hi.out] using this
def isLt (l : Bs) : Bool := match l with | [c] => isLw c | _ => false
theorem xIsLetter_c (s : ByteArray) (w : World) : Calls Tryz.prog 105 #[.string s] w fun e w' => e = .returned (.bool (isLt (kx s))) ∧ w' = w := by
 have HL : Hid (isLt (kx s) = (decide (s.size = 1) && isLw ((kx s).getD 0 0))) := by
  show _ = _;rw [← kx_len]
  match kx s with
  | [] => rfl
  | [c] => simp [isLt]
  | c :: d :: l => simp [isLt]
 obtain ⟨R, HR⟩ := nm (isLt (kx s));rw [HR.out] at HL ⊢;obtain ⟨n, Hn⟩ := nm s.size;rw [Hn.out] at HL
 by_cases h1 : n = 1
 ·
  have i1 := fun W => run_at_str Hn.out (show 0 < n by omega) W
  rw [show ((0 : Nat) : Int) = 0 from rfl] at i1;have HW : Hid (isLw ((kx s).getD 0 0) = decide (97 ≤ ((kx s).getD 0 0).toNat ∧ ((kx s).getD 0 0).toNat ≤ 122)) := rfl;rw [HW.out] at HL;clear HW;generalize ((kx s).getD 0 0).toNat = y at i1 HL;subst h1
  have f0 : (((s.size : Nat) : Int) == 1) = true := by rw [Hn.out]; rfl
  by_cases h2 : 97 ≤ y
  ·
   have f1 : decide ((97 : Int) ≤ (y : Int)) = true := decide_eq_true (by omega);obtain ⟨b, f2⟩ : ∃ b, decide ((y : Int) ≤ 122) = b := ⟨_, rfl⟩
   obtain rfl : R = b := by
    rw [HL.out, ← f2];simp only [h2, true_and, decide_true, Bool.true_and];rw [Bool.eq_iff_iff, decide_eq_true_eq, decide_eq_true_eq];omega
   clear HL;go_enter Tryz.func105, Tryz.ntmps105
   go_wp2_with fail
   go_ret;exact ⟨rfl, rfl⟩
  ·
   have f1 : decide ((97 : Int) ≤ (y : Int)) = false := decide_eq_false (by omega)
   obtain rfl : R = false := by rw [HL.out]; simp [h2]
   clear HL;go_enter Tryz.func105, Tryz.ntmps105
   go_wp2_with fail
   go_ret;exact ⟨rfl, rfl⟩
 ·
  have f1 : (((s.size : Nat) : Int) == 1) = false := by rw [Hn.out]; simp; omega
  obtain rfl : R = false := by rw [HL.out]; simp [h1]
  clear HL;go_enter Tryz.func105, Tryz.ntmps105
  go_wp2_with fail
  go_ret;exact ⟨rfl, rfl⟩
theorem run_from_str {s : Bs} {n i : Nat} (h : s.length = n) (hi : i ≤ n) (w : World) : (Instr.slice 9 (.string (kstr s)) (some (.int .i64 (i : Int))) none none).run Tryz.prog w = .ok (.string (kstr (s.drop i))) w := by
 have hz : (kstr s).size = n := by rw [kstr_size, h]
 have := run_slice_string_l (P := Tryz.prog) w 9 (kstr s) Tryz.underlying9 .i64 (i : Int) (by omega) (by omega);rw [this, kstr_extract, kx_kstr, Int.toNat_natCast, List.take_of_length_le (by rw [List.length_drop]; omega)]
theorem run_to_str {s : Bs} {n i : Nat} (h : s.length = n) (hi : i ≤ n) (w : World) : (Instr.slice 9 (.string (kstr s)) none (some (.int .i64 (i : Int))) none).run Tryz.prog w = .ok (.string (kstr (s.take i))) w := by
 have hz : (kstr s).size = n := by rw [kstr_size, h]
 have := run_slice_string_h (P := Tryz.prog) w 9 (kstr s) Tryz.underlying9 .i64 (i : Int) (by omega) (by omega);rw [this, kstr_extract, kx_kstr];simp
theorem digF_snoc (l : Bs) (c : UInt8) : digF (l ++ [c]) 0 = 10 * digF l 0 + (c.toNat - 48) := by simp [digF]
theorem dig_lt : ∀ (k : Nat) (l : Bs), l.length = k → l.all isDg = true → digF l 0 < 10 ^ k
 | 0, l, h, _ => by
  have : l = [] := List.eq_nil_of_length_eq_zero h;subst this; simp [digF]
 | k + 1, l, h, ha => by
  have hne : l ≠ [] := by intro e; subst e; simp at h
  obtain ⟨l0, c, rfl⟩ : ∃ l0 c, l = l0 ++ [c] := ⟨l.dropLast, l.getLast hne, (List.dropLast_concat_getLast hne).symm⟩;rw [List.all_append, Bool.and_eq_true] at ha;have := dig_lt k l0 (by simpa using h) ha.1
  have h2 : isDg c = true := by simpa using ha.2
  unfold isDg at h2;rw [decide_eq_true_eq] at h2;rw [digF_snoc, Nat.pow_succ];omega
def limF (neg : Bool) : Nat := bif neg then 9223372036854775808 else 9223372036854775807
def sgnF (neg : Bool) (n : Nat) : Int := bif neg then -(n : Int) else n
def magF (t : Bs) (neg : Bool) : Option Int :=
 if t.length < 1 ∨ t.length > 19 ∨ (t.head? = some 48 ∧ (t.length > 1 ∨ neg = true)) then none
 else if t.all isDg then
  if digF t 0 > limF neg then none else some (sgnF neg (digF t 0))
 else none
theorem decF_eq (s : Bs) : decF s = magF (if decide (s.head? = some 45) then s.tail else s) (decide (s.head? = some 45)) := by
 unfold decF magF limF sgnF
 cases decide (s.head? = some 45) <;> rfl
theorem take_dig {t : Bs} {k : Nat} (h : k < t.length) : t.take (k + 1) = t.take k ++ [t.getD k 0] := by rw [take_snoc_ h, getD_of h]
set_option maxRecDepth 100000 in
set_option maxHeartbeats 4000000 in
theorem wParse_c (s : Bs) (w : World) (hs : s.length ≤ 1000000) :
  Calls Tryz.prog 96 #[.string (kstr s)] w fun e w' => e = .returned (.tuple #[.int .i64 ((decF s).getD 0), .bool (decF s).isSome]) ∧ w' = w := by
 rw [decF_eq];have hz0 : (kstr s).size = s.length := kstr_size s;obtain ⟨n0, Hn0⟩ := nm s.length;rw [Hn0.out] at hz0 hs
 have HNG : Hid (decide (s.head? = some 45) = decide (0 < n0 ∧ s.getD 0 0 = 45)) := by
  show _ = _;rw [← Hn0.out]
  cases s with
  | nil => rfl
  | cons a r => simp
 obtain ⟨neg, Hneg⟩ := nm (decide (s.head? = some 45));rw [Hneg.out] at HNG;rw [Hneg.out];obtain ⟨t, Ht⟩ := nm (if neg then s.tail else s);rw [Ht.out];obtain ⟨r, HR⟩ := nm (magF t neg);have HR1 : Hid (r = magF t neg) := HR.out.symm;have HR := HR1;obtain ⟨m, Hm⟩ := nm t.length
 have hz : (kstr t).size = m := by rw [kstr_size, Hm.out]
 obtain ⟨B, HB⟩ := nm (decide (m < 1 ∨ m > 19 ∨ (t.head? = some 48 ∧ (m > 1 ∨ neg = true))))
 have HMGE : Hid (magF t neg = if B = true then none else if t.all isDg then if digF t 0 > limF neg then none else some (sgnF neg (digF t 0)) else none) := by
  show _ = _;unfold magF;rw [← HB.out, Hm.out];simp only [decide_eq_true_eq]
 have hm1 : m ≤ 1000000 := by
  have := Hn0.out;rw [← Hm.out, ← Ht.out]
  split
  ·
   rw [List.length_tail]; omega
  ·
   omega
 obtain ⟨z1, Hz1⟩ := nm (r.getD 0);obtain ⟨z2, Hz2⟩ := nm r.isSome;rw [← HR.out, Hz1.out, Hz2.out]
 by_cases h0 : 0 < n0
 ·
  have f0 : decide ((0 : Int) < (n0 : Int)) = true := decide_eq_true (by omega)
  have i0 := fun W => run_at_str hz0 h0 W
  rw [kx_kstr, show ((0 : Nat) : Int) = 0 from rfl] at i0
  by_cases h45 : s.getD 0 0 = 45
  ·
   rw [h45, show ((45 : UInt8).toNat : Int) = 45 from rfl] at i0
   obtain rfl : neg = true := by rw [HNG.out]; exact decide_eq_true ⟨h0, h45⟩
   have hsl := fun W => run_from_str Hn0.out (show 1 ≤ n0 by omega) W
   have het : s.drop 1 = t := by rw [← Ht.out]; simp
   rw [het, show ((1 : Nat) : Int) = 1 from rfl] at hsl;clear h45 HNG het Hneg;go_enter Tryz.func96, Tryz.ntmps96
   go_upto_region 5 with fail
   go_cut [41] (fun s wx => s = .bool B ∧ wx = w)
   case first =>
    clear HMGE HR Ht
    by_cases q1 : m < 1
    ·
     have g1 : decide ((m : Int) < 1) = true := decide_eq_true (by omega)
     obtain rfl : B = true := by rw [← HB.out]; exact decide_eq_true (.inl q1)
     clear HB
     go_wp2_with fail
     go_meet
     case rel => exact ⟨rfl, rfl⟩
    ·
     have g1 : decide ((m : Int) < 1) = false := decide_eq_false (by omega)
     by_cases q2 : m > 19
     ·
      have g2 : decide ((19 : Int) < (m : Int)) = true := decide_eq_true (by omega)
      obtain rfl : B = true := by rw [← HB.out]; exact decide_eq_true (.inr (.inl q2))
      clear HB
      go_wp2_with fail
      go_meet
      case rel => exact ⟨rfl, rfl⟩
     ·
      have g2 : decide ((19 : Int) < (m : Int)) = false := decide_eq_false (by omega)
      have i3 := fun W => run_at_str hz (show 0 < m by omega) W
      rw [kx_kstr, show ((0 : Nat) : Int) = 0 from rfl] at i3
      have hh : (t.head? = some 48) ↔ (t.getD 0 0).toNat = 48 := by
       cases t with
       | nil => have := Hm.out; simp at this; omega
       | cons a r =>
        simp only [List.head?_cons, Option.some.injEq, List.getD_cons_zero];constructor
        ·
         rintro rfl; rfl
        ·
         intro e; exact UInt8.toNat_inj.1 e
      have HB2 : decide (m < 1 ∨ m > 19 ∨ ((t.getD 0 0).toNat = 48 ∧ (m > 1 ∨ true = true))) = B := by rw [← HB.out]; exact decide_eq_decide.2 (by rw [hh])
      have HB := Lib.hid HB2;clear hh HB2;generalize (t.getD 0 0).toNat = y at i3 HB
      by_cases q3 : y = 48
      ·
       have g3 : ((y : Int) == 48) = true := by rw [q3]; rfl
       by_cases q4 : m > 1
       ·
        have g4 : decide ((1 : Int) < (m : Int)) = true := decide_eq_true (by omega)
        obtain rfl : B = true := by rw [← HB.out]; exact decide_eq_true (.inr (.inr ⟨q3, .inl q4⟩))
        clear HB q3
        go_wp2_with fail
        go_meet
        case rel => exact ⟨rfl, rfl⟩
       ·
        have g4 : decide ((1 : Int) < (m : Int)) = false := decide_eq_false (by omega)
        obtain rfl : B = true := by
         rw [← HB.out, Bool.eq_iff_iff, decide_eq_true_eq];constructor
         ·
          rintro (h | h | ⟨_, h | h⟩)
          ·
           omega
          ·
           omega
          ·
           omega
          ·
           exact h
         ·
          intro h; exact .inr (.inr ⟨q3, .inr h⟩)
        clear HB q3
        go_wp2_with fail
        go_meet
        case rel => exact ⟨rfl, rfl⟩
      ·
       have g3 : ((y : Int) == 48) = false := by simp; omega
       obtain rfl : B = false := by rw [← HB.out]; exact decide_eq_false (by omega)
       clear HB q3
       go_wp2_with fail
       go_meet
       case rel => exact ⟨rfl, rfl⟩
   case rest =>
    obtain ⟨rfl, hwc⟩ := hcut;have hwc2 : w = wc := hwc.symm;subst hwc2
    cases B with
    | true =>
     have HN : Hid (magF t true = none) := by show _ = _; rw [HMGE.out, if_pos rfl]
     clear HMGE HB
     go_wp2_with fail
     go_ret2;exact ⟨by rw [← Hz1.out, ← Hz2.out, HR.out, HN.out]; rfl, rfl⟩
    | false =>
     have HMG : Hid (magF t true = if t.all isDg then if digF t 0 > limF true then none else some (sgnF true (digF t 0)) else none) := by show _ = _; rw [HMGE.out, if_neg (by decide)]
     have hm19 : m ≤ 19 := by
      have := HB.out;rw [decide_eq_false_iff_not] at this;omega
     clear HMGE HB
     go_wp2_with fail
     go_loopg [6, 7] m (fun g a b wr => ∃ k : Nat, Hid (g = m - k) ∧ k ≤ m ∧ b = .int .i64 k ∧ a = .int .u64 (digF (t.take k) 0) ∧ Hid ((t.take k).all isDg = true) ∧ wr = w)
     case atStart => exact ⟨0, rfl, by omega, rfl, rfl, rfl, rfl⟩
     case round =>
      obtain ⟨k, Hg, hk, rfl, rfl, HA, hw⟩ := hrel;subst hw;have hlt18 := dig_lt (t.take k).length (t.take k) rfl HA.out
      have hkl : (t.take k).length = k := by rw [List.length_take, Hm.out]; omega
      rw [hkl] at hlt18;obtain ⟨n, Hdn⟩ := nm (digF (t.take k) 0);rw [Hdn.out] at hlt18 ⊢
      by_cases hlt : k < m
      ·
       have ti : decide ((k : Int) < (m : Int)) = true := decide_eq_true (by omega)
       have hn18 : n < 1000000000000000000 := by
        have : (10 : Nat) ^ k ≤ 10 ^ 18 := Nat.pow_le_pow_right (by omega) (by omega);omega
       have hkt : k < t.length := by rw [Hm.out]; exact hlt
       have i1 := fun W => run_at_str hz hlt W
       rw [kx_kstr] at i1;have HT := Lib.hid (take_dig hkt);obtain ⟨c, Hc⟩ := nm (t.getD k 0);rw [Hc.out] at i1 HT;have HD : Hid (isDg c = decide (48 ≤ c.toNat ∧ c.toNat ≤ 57)) := rfl;have HDG := Lib.hid (digF_snoc (t.take k) c);rw [← HT.out, Hdn.out] at HDG
       have HAL : Hid ((t.take (k + 1)).all isDg = isDg c) := by show _ = _; rw [HT.out, List.all_append, HA.out]; simp
       have HNO : Hid (isDg c = false → magF t true = none) := fun q => by
        rw [HMG.out];rw [if_neg];intro q2;rw [List.all_eq_true] at q2
        have : c ∈ t := by rw [← Hc.out, getD_of hkt]; exact List.getElem_mem _
        rw [q2 c this] at q; cases q
       generalize c.toNat = y at i1 HD HDG;obtain ⟨dg, Hdg⟩ := nm (isDg c);rw [Hdg.out] at HD HAL HNO;clear hlt18 hkl HT HA
       by_cases hy1 : y < 48
       ·
        have f1 : decide ((y : Int) < 48) = true := decide_eq_true (by omega)
        obtain rfl : dg = false := by rw [HD.out]; exact decide_eq_false (by omega)
        have HN := Lib.hid (HNO.out rfl);clear hy1 HD HDG HAL HNO
        go_wp2_with fail
        go_ret2;exact ⟨by rw [← Hz1.out, ← Hz2.out, HR.out, HN.out]; rfl, rfl⟩
       ·
        have f1 : decide ((y : Int) < 48) = false := decide_eq_false (by omega)
        by_cases hy2 : 57 < y
        ·
         have f2 : decide ((57 : Int) < (y : Int)) = true := decide_eq_true (by omega)
         obtain rfl : dg = false := by rw [HD.out]; exact decide_eq_false (by omega)
         have HN := Lib.hid (HNO.out rfl);clear hy1 hy2 HD HDG HAL HNO
         go_wp2_with fail
         go_ret2;exact ⟨by rw [← Hz1.out, ← Hz2.out, HR.out, HN.out]; rfl, rfl⟩
        ·
         have f2 : decide ((57 : Int) < (y : Int)) = false := decide_eq_false (by omega)
         obtain rfl : dg = true := by rw [HD.out]; exact decide_eq_true (by omega)
         have w1 : IntKind.u64.wrap (10 * (n : Int)) = 10 * (n : Int) := by rw [IntKind.wrap_u64]; omega
         have w2 : IntKind.u8.wrap ((y : Int) - 48) = (y : Int) - 48 := by rw [IntKind.wrap_u8]; omega
         have w3 : IntKind.u64.wrap ((y : Int) - 48) = (y : Int) - 48 := by rw [IntKind.wrap_u64]; omega
         have w4 : IntKind.u64.wrap (10 * (n : Int) + ((y : Int) - 48)) = 10 * (n : Int) + ((y : Int) - 48) := by rw [IntKind.wrap_u64]; omega
         have hy3 : 48 ≤ y := by omega
         clear HD HNO
         go_wp2_with fail
         go_roundg (m - (k + 1))
         case measure => rw [Hg.out]; omega
         case rel => exact ⟨k + 1, rfl, by omega, by go_num, by rw [HDG.out]; congr 1; omega, HAL.out, rfl⟩
      ·
       have HKM : Hid (m = k) := by show _ = _; omega
       have hall : t.all isDg = true := by
        have := HA.out
        rwa [List.take_of_length_le (by rw [Hm.out, HKM.out]; exact Nat.le_refl _)] at this
       have HM : Hid (magF t true = if n > limF true then none else some (sgnF true n)) := by
        show _ = _;rw [HMG.out, if_pos hall, ← Hdn.out, List.take_of_length_le (by rw [Hm.out, HKM.out]; exact Nat.le_refl _)]
       have ti : decide ((k : Int) < (m : Int)) = false := decide_eq_false (by omega)
       have hn19 : n < 10000000000000000000 := by
        have : (10 : Nat) ^ k ≤ 10 ^ 19 := Nat.pow_le_pow_right (by omega) (by omega);omega
       clear hall HMG HA hlt18 hkl
       by_cases hb : n > 9223372036854775808
       ·
        have fb : decide ((9223372036854775808 : Int) < (n : Int)) = true := decide_eq_true (by omega)
        have HN : Hid (magF t true = none) := by show _ = _; rw [HM.out, if_pos (show n > limF true from hb)]
        clear HM
        go_wp2_with fail
        go_ret2;exact ⟨by rw [← Hz1.out, ← Hz2.out, HR.out, HN.out]; rfl, rfl⟩
       ·
        have fb : decide ((9223372036854775808 : Int) < (n : Int)) = false := decide_eq_false (by omega)
        have HN : Hid (magF t true = some (-(n : Int))) := by show _ = _; rw [HM.out, if_neg (show ¬ n > limF true from hb)]; rfl
        have w5 : wrap64 (IntKind.u64.wrap (-(n : Int))) = -(n : Int) := by rw [wrap64, IntKind.wrap_u64]; omega
        clear HM
        go_wp2_with fail
        go_ret2
        exact ⟨by rw [← Hz1.out, ← Hz2.out, HR.out, HN.out]; show Ending.returned (.tuple #[.int .i64 (wrap64 (IntKind.u64.wrap (-(n : Int)))), .bool true]) = _; rw [w5]; rfl, rfl⟩
  ·
   have f45 : (((s.getD 0 0).toNat : Int) == 45) = false := by
    simp only [beq_eq_false_iff_ne, ne_eq];intro e;exact h45 (UInt8.toNat_inj.1 (by have : (45 : UInt8).toNat = 45 := rfl; omega))
   obtain rfl : neg = false := by rw [HNG.out]; exact decide_eq_false (fun q => h45 q.2)
   have het : t = s := by rw [← Ht.out]; simp
   obtain rfl : m = n0 := by rw [← Hn0.out, ← Hm.out, het]
   rw [← het] at i0 f45 ⊢;obtain ⟨y0, Hy0⟩ := nm (t.getD 0 0).toNat;rw [Hy0.out] at i0 f45;clear hz0 het;clear h45 HNG Hneg;go_enter Tryz.func96, Tryz.ntmps96
   go_upto_region 5 with fail
   go_cut [41] (fun s wx => s = .bool B ∧ wx = w)
   case first =>
    clear HMGE HR Ht
    by_cases q1 : m < 1
    ·
     have g1 : decide ((m : Int) < 1) = true := decide_eq_true (by omega)
     obtain rfl : B = true := by rw [← HB.out]; exact decide_eq_true (.inl q1)
     clear HB
     go_wp2_with fail
     go_meet
     case rel => exact ⟨rfl, rfl⟩
    ·
     have g1 : decide ((m : Int) < 1) = false := decide_eq_false (by omega)
     by_cases q2 : m > 19
     ·
      have g2 : decide ((19 : Int) < (m : Int)) = true := decide_eq_true (by omega)
      obtain rfl : B = true := by rw [← HB.out]; exact decide_eq_true (.inr (.inl q2))
      clear HB
      go_wp2_with fail
      go_meet
      case rel => exact ⟨rfl, rfl⟩
     ·
      have g2 : decide ((19 : Int) < (m : Int)) = false := decide_eq_false (by omega)
      have i3 := fun W => run_at_str hz (show 0 < m by omega) W
      rw [kx_kstr, show ((0 : Nat) : Int) = 0 from rfl] at i3
      have hh : (t.head? = some 48) ↔ (t.getD 0 0).toNat = 48 := by
       cases t with
       | nil => have := Hm.out; simp at this; omega
       | cons a r =>
        simp only [List.head?_cons, Option.some.injEq, List.getD_cons_zero];constructor
        ·
         rintro rfl; rfl
        ·
         intro e; exact UInt8.toNat_inj.1 e
      have HB2 : decide (m < 1 ∨ m > 19 ∨ ((t.getD 0 0).toNat = 48 ∧ (m > 1 ∨ false = true))) = B := by rw [← HB.out]; exact decide_eq_decide.2 (by rw [hh])
      have HB := Lib.hid HB2;clear hh HB2;rw [Hy0.out] at i3 HB;obtain ⟨y, rfl⟩ : ∃ y, y = y0 := ⟨_, rfl⟩
      by_cases q3 : y = 48
      ·
       have g3 : ((y : Int) == 48) = true := by rw [q3]; rfl
       by_cases q4 : m > 1
       ·
        have g4 : decide ((1 : Int) < (m : Int)) = true := decide_eq_true (by omega)
        obtain rfl : B = true := by rw [← HB.out]; exact decide_eq_true (.inr (.inr ⟨q3, .inl q4⟩))
        clear HB q3
        go_wp2_with fail
        go_meet
        case rel => exact ⟨rfl, rfl⟩
       ·
        have g4 : decide ((1 : Int) < (m : Int)) = false := decide_eq_false (by omega)
        obtain rfl : B = false := by
         rw [← HB.out, Bool.eq_iff_iff, decide_eq_true_eq];constructor
         ·
          rintro (h | h | ⟨_, h | h⟩)
          ·
           omega
          ·
           omega
          ·
           omega
          ·
           exact h
         ·
          intro h; exact .inr (.inr ⟨q3, .inr h⟩)
        clear HB q3
        go_wp2_with fail
        go_meet
        case rel => exact ⟨rfl, rfl⟩
      ·
       have g3 : ((y : Int) == 48) = false := by simp; omega
       obtain rfl : B = false := by rw [← HB.out]; exact decide_eq_false (by omega)
       clear HB q3
       go_wp2_with fail
       go_meet
       case rel => exact ⟨rfl, rfl⟩
   case rest =>
    obtain ⟨rfl, hwc⟩ := hcut;have hwc2 : w = wc := hwc.symm;subst hwc2
    cases B with
    | true =>
     have HN : Hid (magF t false = none) := by show _ = _; rw [HMGE.out, if_pos rfl]
     clear HMGE HB
     go_wp2_with fail
     go_ret2;exact ⟨by rw [← Hz1.out, ← Hz2.out, HR.out, HN.out]; rfl, rfl⟩
    | false =>
     have HMG : Hid (magF t false = if t.all isDg then if digF t 0 > limF false then none else some (sgnF false (digF t 0)) else none) := by show _ = _; rw [HMGE.out, if_neg (by decide)]
     have hm19 : m ≤ 19 := by
      have := HB.out;rw [decide_eq_false_iff_not] at this;omega
     clear HMGE HB
     go_wp2_with fail
     go_loopg [6, 7] m (fun g a b wr => ∃ k : Nat, Hid (g = m - k) ∧ k ≤ m ∧ b = .int .i64 k ∧ a = .int .u64 (digF (t.take k) 0) ∧ Hid ((t.take k).all isDg = true) ∧ wr = w)
     case atStart => exact ⟨0, rfl, by omega, rfl, rfl, rfl, rfl⟩
     case round =>
      obtain ⟨k, Hg, hk, rfl, rfl, HA, hw⟩ := hrel;subst hw;have hlt18 := dig_lt (t.take k).length (t.take k) rfl HA.out
      have hkl : (t.take k).length = k := by rw [List.length_take, Hm.out]; omega
      rw [hkl] at hlt18;obtain ⟨n, Hdn⟩ := nm (digF (t.take k) 0);rw [Hdn.out] at hlt18 ⊢
      by_cases hlt : k < m
      ·
       have ti : decide ((k : Int) < (m : Int)) = true := decide_eq_true (by omega)
       have hn18 : n < 1000000000000000000 := by
        have : (10 : Nat) ^ k ≤ 10 ^ 18 := Nat.pow_le_pow_right (by omega) (by omega);omega
       have hkt : k < t.length := by rw [Hm.out]; exact hlt
       have i1 := fun W => run_at_str hz hlt W
       rw [kx_kstr] at i1;have HT := Lib.hid (take_dig hkt);obtain ⟨c, Hc⟩ := nm (t.getD k 0);rw [Hc.out] at i1 HT;have HD : Hid (isDg c = decide (48 ≤ c.toNat ∧ c.toNat ≤ 57)) := rfl;have HDG := Lib.hid (digF_snoc (t.take k) c);rw [← HT.out, Hdn.out] at HDG
       have HAL : Hid ((t.take (k + 1)).all isDg = isDg c) := by show _ = _; rw [HT.out, List.all_append, HA.out]; simp
       have HNO : Hid (isDg c = false → magF t false = none) := fun q => by
        rw [HMG.out];rw [if_neg];intro q2;rw [List.all_eq_true] at q2
        have : c ∈ t := by rw [← Hc.out, getD_of hkt]; exact List.getElem_mem _
        rw [q2 c this] at q; cases q
       generalize c.toNat = y at i1 HD HDG;obtain ⟨dg, Hdg⟩ := nm (isDg c);rw [Hdg.out] at HD HAL HNO;clear hlt18 hkl HT HA
       by_cases hy1 : y < 48
       ·
        have f1 : decide ((y : Int) < 48) = true := decide_eq_true (by omega)
        obtain rfl : dg = false := by rw [HD.out]; exact decide_eq_false (by omega)
        have HN := Lib.hid (HNO.out rfl);clear hy1 HD HDG HAL HNO
        go_wp2_with fail
        go_ret2;exact ⟨by rw [← Hz1.out, ← Hz2.out, HR.out, HN.out]; rfl, rfl⟩
       ·
        have f1 : decide ((y : Int) < 48) = false := decide_eq_false (by omega)
        by_cases hy2 : 57 < y
        ·
         have f2 : decide ((57 : Int) < (y : Int)) = true := decide_eq_true (by omega)
         obtain rfl : dg = false := by rw [HD.out]; exact decide_eq_false (by omega)
         have HN := Lib.hid (HNO.out rfl);clear hy1 hy2 HD HDG HAL HNO
         go_wp2_with fail
         go_ret2;exact ⟨by rw [← Hz1.out, ← Hz2.out, HR.out, HN.out]; rfl, rfl⟩
        ·
         have f2 : decide ((57 : Int) < (y : Int)) = false := decide_eq_false (by omega)
         obtain rfl : dg = true := by rw [HD.out]; exact decide_eq_true (by omega)
         have w1 : IntKind.u64.wrap (10 * (n : Int)) = 10 * (n : Int) := by rw [IntKind.wrap_u64]; omega
         have w2 : IntKind.u8.wrap ((y : Int) - 48) = (y : Int) - 48 := by rw [IntKind.wrap_u8]; omega
         have w3 : IntKind.u64.wrap ((y : Int) - 48) = (y : Int) - 48 := by rw [IntKind.wrap_u64]; omega
         have w4 : IntKind.u64.wrap (10 * (n : Int) + ((y : Int) - 48)) = 10 * (n : Int) + ((y : Int) - 48) := by rw [IntKind.wrap_u64]; omega
         have hy3 : 48 ≤ y := by omega
         clear HD HNO
         go_wp2_with fail
         go_roundg (m - (k + 1))
         case measure => rw [Hg.out]; omega
         case rel => exact ⟨k + 1, rfl, by omega, by go_num, by rw [HDG.out]; congr 1; omega, HAL.out, rfl⟩
      ·
       have HKM : Hid (m = k) := by show _ = _; omega
       have hall : t.all isDg = true := by
        have := HA.out
        rwa [List.take_of_length_le (by rw [Hm.out, HKM.out]; exact Nat.le_refl _)] at this
       have HM : Hid (magF t false = if n > limF false then none else some (sgnF false n)) := by
        show _ = _;rw [HMG.out, if_pos hall, ← Hdn.out, List.take_of_length_le (by rw [Hm.out, HKM.out]; exact Nat.le_refl _)]
       have ti : decide ((k : Int) < (m : Int)) = false := decide_eq_false (by omega)
       have hn19 : n < 10000000000000000000 := by
        have : (10 : Nat) ^ k ≤ 10 ^ 19 := Nat.pow_le_pow_right (by omega) (by omega);omega
       clear hall HMG HA hlt18 hkl
       by_cases hb : n > 9223372036854775807
       ·
        have fb : decide ((9223372036854775807 : Int) < (n : Int)) = true := decide_eq_true (by omega)
        have HN : Hid (magF t false = none) := by show _ = _; rw [HM.out, if_pos (show n > limF false from hb)]
        clear HM
        go_wp2_with fail
        go_ret2;exact ⟨by rw [← Hz1.out, ← Hz2.out, HR.out, HN.out]; rfl, rfl⟩
       ·
        have fb : decide ((9223372036854775807 : Int) < (n : Int)) = false := decide_eq_false (by omega)
        have HN : Hid (magF t false = some (n : Int)) := by show _ = _; rw [HM.out, if_neg (show ¬ n > limF false from hb)]; rfl
        have w5 : wrap64 (n : Int) = (n : Int) := by rw [wrap64]; omega
        clear HM
        go_wp2_with fail
        go_ret2;exact ⟨by rw [← Hz1.out, ← Hz2.out, HR.out, HN.out]; rfl, rfl⟩
 ·
  have f0 : decide ((0 : Int) < (n0 : Int)) = false := decide_eq_false (by omega)
  obtain rfl : neg = false := by rw [HNG.out]; exact decide_eq_false (fun q => h0 q.1)
  have het : t = s := by rw [← Ht.out]; simp
  obtain rfl : m = n0 := by rw [← Hn0.out, ← Hm.out, het]
  rw [← het];clear hz0 het;clear HNG Hneg;go_enter Tryz.func96, Tryz.ntmps96
  go_upto_region 5 with fail
  go_cut [41] (fun s wx => s = .bool B ∧ wx = w)
  case first =>
   clear HMGE HR Ht
   by_cases q1 : m < 1
   ·
    have g1 : decide ((m : Int) < 1) = true := decide_eq_true (by omega)
    obtain rfl : B = true := by rw [← HB.out]; exact decide_eq_true (.inl q1)
    clear HB
    go_wp2_with fail
    go_meet
    case rel => exact ⟨rfl, rfl⟩
   ·
    have g1 : decide ((m : Int) < 1) = false := decide_eq_false (by omega)
    by_cases q2 : m > 19
    ·
     have g2 : decide ((19 : Int) < (m : Int)) = true := decide_eq_true (by omega)
     obtain rfl : B = true := by rw [← HB.out]; exact decide_eq_true (.inr (.inl q2))
     clear HB
     go_wp2_with fail
     go_meet
     case rel => exact ⟨rfl, rfl⟩
    ·
     have g2 : decide ((19 : Int) < (m : Int)) = false := decide_eq_false (by omega)
     have i3 := fun W => run_at_str hz (show 0 < m by omega) W
     rw [kx_kstr, show ((0 : Nat) : Int) = 0 from rfl] at i3
     have hh : (t.head? = some 48) ↔ (t.getD 0 0).toNat = 48 := by
      cases t with
      | nil => have := Hm.out; simp at this; omega
      | cons a r =>
       simp only [List.head?_cons, Option.some.injEq, List.getD_cons_zero];constructor
       ·
        rintro rfl; rfl
       ·
        intro e; exact UInt8.toNat_inj.1 e
     have HB2 : decide (m < 1 ∨ m > 19 ∨ ((t.getD 0 0).toNat = 48 ∧ (m > 1 ∨ false = true))) = B := by rw [← HB.out]; exact decide_eq_decide.2 (by rw [hh])
     have HB := Lib.hid HB2;clear hh HB2;generalize (t.getD 0 0).toNat = y at i3 HB
     by_cases q3 : y = 48
     ·
      have g3 : ((y : Int) == 48) = true := by rw [q3]; rfl
      by_cases q4 : m > 1
      ·
       have g4 : decide ((1 : Int) < (m : Int)) = true := decide_eq_true (by omega)
       obtain rfl : B = true := by rw [← HB.out]; exact decide_eq_true (.inr (.inr ⟨q3, .inl q4⟩))
       clear HB q3
       go_wp2_with fail
       go_meet
       case rel => exact ⟨rfl, rfl⟩
      ·
       have g4 : decide ((1 : Int) < (m : Int)) = false := decide_eq_false (by omega)
       obtain rfl : B = false := by
        rw [← HB.out, Bool.eq_iff_iff, decide_eq_true_eq];constructor
        ·
         rintro (h | h | ⟨_, h | h⟩)
         ·
          omega
         ·
          omega
         ·
          omega
         ·
          exact h
        ·
         intro h; exact .inr (.inr ⟨q3, .inr h⟩)
       clear HB q3
       go_wp2_with fail
       go_meet
       case rel => exact ⟨rfl, rfl⟩
     ·
      have g3 : ((y : Int) == 48) = false := by simp; omega
      obtain rfl : B = false := by rw [← HB.out]; exact decide_eq_false (by omega)
      clear HB q3
      go_wp2_with fail
      go_meet
      case rel => exact ⟨rfl, rfl⟩
  case rest =>
   obtain ⟨rfl, hwc⟩ := hcut;have hwc2 : w = wc := hwc.symm;subst hwc2
   cases B with
   | true =>
    have HN : Hid (magF t false = none) := by show _ = _; rw [HMGE.out, if_pos rfl]
    clear HMGE HB
    go_wp2_with fail
    go_ret2;exact ⟨by rw [← Hz1.out, ← Hz2.out, HR.out, HN.out]; rfl, rfl⟩
   | false =>
    have HMG : Hid (magF t false = if t.all isDg then if digF t 0 > limF false then none else some (sgnF false (digF t 0)) else none) := by show _ = _; rw [HMGE.out, if_neg (by decide)]
    have hm19 : m ≤ 19 := by
     have := HB.out;rw [decide_eq_false_iff_not] at this;omega
    clear HMGE HB
    go_wp2_with fail
    go_loopg [6, 7] m (fun g a b wr => ∃ k : Nat, Hid (g = m - k) ∧ k ≤ m ∧ b = .int .i64 k ∧ a = .int .u64 (digF (t.take k) 0) ∧ Hid ((t.take k).all isDg = true) ∧ wr = w)
    case atStart => exact ⟨0, rfl, by omega, rfl, rfl, rfl, rfl⟩
    case round =>
     obtain ⟨k, Hg, hk, rfl, rfl, HA, hw⟩ := hrel;subst hw;have hlt18 := dig_lt (t.take k).length (t.take k) rfl HA.out
     have hkl : (t.take k).length = k := by rw [List.length_take, Hm.out]; omega
     rw [hkl] at hlt18;obtain ⟨n, Hdn⟩ := nm (digF (t.take k) 0);rw [Hdn.out] at hlt18 ⊢
     by_cases hlt : k < m
     ·
      have ti : decide ((k : Int) < (m : Int)) = true := decide_eq_true (by omega)
      have hn18 : n < 1000000000000000000 := by
       have : (10 : Nat) ^ k ≤ 10 ^ 18 := Nat.pow_le_pow_right (by omega) (by omega);omega
      have hkt : k < t.length := by rw [Hm.out]; exact hlt
      have i1 := fun W => run_at_str hz hlt W
      rw [kx_kstr] at i1;have HT := Lib.hid (take_dig hkt);obtain ⟨c, Hc⟩ := nm (t.getD k 0);rw [Hc.out] at i1 HT;have HD : Hid (isDg c = decide (48 ≤ c.toNat ∧ c.toNat ≤ 57)) := rfl;have HDG := Lib.hid (digF_snoc (t.take k) c);rw [← HT.out, Hdn.out] at HDG
      have HAL : Hid ((t.take (k + 1)).all isDg = isDg c) := by show _ = _; rw [HT.out, List.all_append, HA.out]; simp
      have HNO : Hid (isDg c = false → magF t false = none) := fun q => by
       rw [HMG.out];rw [if_neg];intro q2;rw [List.all_eq_true] at q2
       have : c ∈ t := by rw [← Hc.out, getD_of hkt]; exact List.getElem_mem _
       rw [q2 c this] at q; cases q
      generalize c.toNat = y at i1 HD HDG;obtain ⟨dg, Hdg⟩ := nm (isDg c);rw [Hdg.out] at HD HAL HNO;clear hlt18 hkl HT HA
      by_cases hy1 : y < 48
      ·
       have f1 : decide ((y : Int) < 48) = true := decide_eq_true (by omega)
       obtain rfl : dg = false := by rw [HD.out]; exact decide_eq_false (by omega)
       have HN := Lib.hid (HNO.out rfl);clear hy1 HD HDG HAL HNO
       go_wp2_with fail
       go_ret2;exact ⟨by rw [← Hz1.out, ← Hz2.out, HR.out, HN.out]; rfl, rfl⟩
      ·
       have f1 : decide ((y : Int) < 48) = false := decide_eq_false (by omega)
       by_cases hy2 : 57 < y
       ·
        have f2 : decide ((57 : Int) < (y : Int)) = true := decide_eq_true (by omega)
        obtain rfl : dg = false := by rw [HD.out]; exact decide_eq_false (by omega)
        have HN := Lib.hid (HNO.out rfl);clear hy1 hy2 HD HDG HAL HNO
        go_wp2_with fail
        go_ret2;exact ⟨by rw [← Hz1.out, ← Hz2.out, HR.out, HN.out]; rfl, rfl⟩
       ·
        have f2 : decide ((57 : Int) < (y : Int)) = false := decide_eq_false (by omega)
        obtain rfl : dg = true := by rw [HD.out]; exact decide_eq_true (by omega)
        have w1 : IntKind.u64.wrap (10 * (n : Int)) = 10 * (n : Int) := by rw [IntKind.wrap_u64]; omega
        have w2 : IntKind.u8.wrap ((y : Int) - 48) = (y : Int) - 48 := by rw [IntKind.wrap_u8]; omega
        have w3 : IntKind.u64.wrap ((y : Int) - 48) = (y : Int) - 48 := by rw [IntKind.wrap_u64]; omega
        have w4 : IntKind.u64.wrap (10 * (n : Int) + ((y : Int) - 48)) = 10 * (n : Int) + ((y : Int) - 48) := by rw [IntKind.wrap_u64]; omega
        have hy3 : 48 ≤ y := by omega
        clear HD HNO
        go_wp2_with fail
        go_roundg (m - (k + 1))
        case measure => rw [Hg.out]; omega
        case rel => exact ⟨k + 1, rfl, by omega, by go_num, by rw [HDG.out]; congr 1; omega, HAL.out, rfl⟩
     ·
      have HKM : Hid (m = k) := by show _ = _; omega
      have hall : t.all isDg = true := by
       have := HA.out
       rwa [List.take_of_length_le (by rw [Hm.out, HKM.out]; exact Nat.le_refl _)] at this
      have HM : Hid (magF t false = if n > limF false then none else some (sgnF false n)) := by
       show _ = _;rw [HMG.out, if_pos hall, ← Hdn.out, List.take_of_length_le (by rw [Hm.out, HKM.out]; exact Nat.le_refl _)]
      have ti : decide ((k : Int) < (m : Int)) = false := decide_eq_false (by omega)
      have hn19 : n < 10000000000000000000 := by
       have : (10 : Nat) ^ k ≤ 10 ^ 19 := Nat.pow_le_pow_right (by omega) (by omega);omega
      clear hall HMG HA hlt18 hkl
      by_cases hb : n > 9223372036854775807
      ·
       have fb : decide ((9223372036854775807 : Int) < (n : Int)) = true := decide_eq_true (by omega)
       have HN : Hid (magF t false = none) := by show _ = _; rw [HM.out, if_pos (show n > limF false from hb)]
       clear HM
       go_wp2_with fail
       go_ret2;exact ⟨by rw [← Hz1.out, ← Hz2.out, HR.out, HN.out]; rfl, rfl⟩
      ·
       have fb : decide ((9223372036854775807 : Int) < (n : Int)) = false := decide_eq_false (by omega)
       have HN : Hid (magF t false = some (n : Int)) := by show _ = _; rw [HM.out, if_neg (show ¬ n > limF false from hb)]; rfl
       have w5 : wrap64 (n : Int) = (n : Int) := by rw [wrap64]; omega
       clear HM
       go_wp2_with fail
       go_ret2;exact ⟨by rw [← Hz1.out, ← Hz2.out, HR.out, HN.out]; rfl, rfl⟩
def sCells (L : List Bs) : List Value := L.map fun s => Value.string (kstr s)
theorem Sl.new' (w : World) (t : TypeId) (cs : List Value) {a : Array Value} (h : a = cs.toArray) : Sl (w.alloc (.cells a t)) (fun _ => True) (some ⟨w.heap.size, 0, none⟩) cs := by
 subst h;exact (Sl.new w t cs).mono (fun _ _ _ => trivial)
theorem nameL_len : nameL.length = 28 := rfl
set_option maxRecDepth 100000 in
theorem tnames_c (w : World) : Calls Tryz.prog 103 #[] w fun e w' => e = .returned (.slice (some ⟨w.heap.size, 0, none⟩) 28 28) ∧ Sl w' (fun _ => True) (some ⟨w.heap.size, 0, none⟩) (sCells nameL) ∧ Upd Non w w' := by
 go_enter Tryz.func103, Tryz.ntmps103
 go_wp2_with fail
 go_ret;exact ⟨rfl, Sl.new' w _ _ rfl, Upd.refl.alloc _⟩
theorem findL_step {l : List Bs} {k : Nat} (h : k < l.length) (s : Bs) (i : Nat) : findL (l.drop k) s i = if l[k] = s then some i else findL (l.drop (k + 1)) s (i + 1) := by
 rw [List.drop_eq_getElem_cons h]; rfl
set_option maxRecDepth 100000 in
set_option maxHeartbeats 1000000 in
theorem tOp_c (s : Bs) (w : World) : Calls Tryz.prog 128 #[.string (kstr s)] w fun e w' => e = .returned (.tuple #[.int .i64 ((opF s).getD 0), .bool (opF s).isSome]) ∧ Upd Non w w' := by
 have C := Lib.hid (tnames_c w);have HO : Hid (opF s = (findL nameL s 0).map (4 + ·)) := rfl;obtain ⟨r, Hr⟩ := nm (opF s);rw [Hr.out] at HO;rw [Hr.out];obtain ⟨z1, Hz1⟩ := nm (r.getD 0);obtain ⟨z2, Hz2⟩ := nm r.isSome;rw [Hz1.out, Hz2.out];obtain ⟨str, Hstr⟩ := nm (kstr s);rw [Hstr.out];go_enter Tryz.func128, Tryz.ntmps128
 go_wp2_with fail
 refine C.out.mono ?_;rintro e W ⟨rfl, hs, hu⟩;clear C
 go_wp2_with fail
 obtain ⟨A, HA⟩ := nm (some (⟨w.heap.size, 0, none⟩ : Addr));rw [HA.out] at hs ⊢
 go_loopg [8] 28 (fun g i wr => ∃ k : Nat, Hid (g = 28 - k) ∧ k ≤ 28 ∧ i = .int .i64 k ∧ Hid (findL nameL s 0 = findL (nameL.drop k) s k) ∧ wr = W)
 case atStart => exact ⟨0, rfl, by omega, rfl, rfl, rfl⟩
 case round =>
  obtain ⟨k, Hg, hk, rfl, HK, hw⟩ := hrel;subst hw
  by_cases hlt : k < 28
  ·
   have ti : decide ((k : Int) < 28) = true := decide_eq_true (by omega);have hkl : k < nameL.length := hlt;obtain ⟨b, o, rfl, _, _, hc⟩ := hs.at_ (k := k) (by simpa [sCells] using hkl);have HF := Lib.hid (findL_step hkl s k)
   have hc2 : wr.cell? ⟨b, o + k, none⟩ = some (.string (kstr nameL[k])) := by rw [hc]; simp [sCells]
   generalize nameL[k] = nk at hc2 HF
   have hq : ((kstr nk).toList == str.toList) = decide (nk = s) := by rw [← Hstr.out, str_beq]
   obtain ⟨nks, Hnks⟩ := nm (kstr nk);rw [Hnks.out] at hc2 hq;clear hc hs
   by_cases he : nk = s
   ·
    rw [decide_eq_true he] at hq
    have HR : Hid (r = some (4 + k)) := by show _ = _; rw [HO.out, HK.out, HF.out, if_pos he]; rfl
    clear he HF HK HO
    go_wp2_with fail
    go_ret2;exact ⟨by rw [← Hz1.out, ← Hz2.out, HR.out]; rfl, hu⟩
   ·
    rw [decide_eq_false he] at hq
    have HK2 : Hid (findL nameL s 0 = findL (nameL.drop (k + 1)) s (k + 1)) := by show _ = _; rw [HK.out, HF.out, if_neg he]
    clear he HF HK
    go_wp2_with fail
    go_roundg (28 - (k + 1))
    case measure => rw [Hg.out]; omega
    case rel => exact ⟨k + 1, rfl, by omega, by go_num, HK2, rfl⟩
  ·
   obtain rfl : k = 28 := by omega
   have HR : Hid (r = none) := by show _ = _; rw [HO.out, HK.out, List.drop_of_length_le (by rw [nameL_len]; exact Nat.le_refl _)]; rfl
   clear HK HO
   go_wp2_with fail
   go_ret2;exact ⟨by rw [← Hz1.out, ← Hz2.out, HR.out]; rfl, hu⟩
set_option maxHeartbeats 1000000 in
theorem rArity_c (op : Int) (w : World) : Calls Tryz.prog 118 #[.int .i64 op] w fun e w' => e = .returned (.tuple #[.int .i64 ((arF op).getD 0), .bool (arF op).isSome]) ∧ w' = w := by
 have HA : Hid (arF op = if op = 24 ∨ op = 20 ∨ op = 21 then some 1 else if op = 22 ∨ op = 28 then some 3 else if (4 ≤ op ∧ op ≤ 23) ∨ op = 27 ∨ op = 29 then some 2 else none) := rfl
 obtain ⟨r, Hr⟩ := nm (arF op);rw [Hr.out] at HA;rw [Hr.out];obtain ⟨z1, Hz1⟩ := nm (r.getD 0);obtain ⟨z2, Hz2⟩ := nm r.isSome;rw [Hz1.out, Hz2.out]
 by_cases h24 : op = 24
 ·
  have f24 : (op == 24) = true := by rw [h24]; rfl
  have HR : Hid (r = some 1) := by show _ = _; rw [HA.out, if_pos (by omega)]
  clear HA;go_enter Tryz.func118, Tryz.ntmps118
  go_wp2_with fail
  go_ret2;exact ⟨by rw [← Hz1.out, ← Hz2.out, HR.out]; rfl, rfl⟩
 ·
  have f24 : (op == 24) = false := by simpa using h24
  by_cases h20 : op = 20
  ·
   have f20 : (op == 20) = true := by rw [h20]; rfl
   have HR : Hid (r = some 1) := by show _ = _; rw [HA.out, if_pos (by omega)]
   clear HA;go_enter Tryz.func118, Tryz.ntmps118
   go_wp2_with fail
   go_ret2;exact ⟨by rw [← Hz1.out, ← Hz2.out, HR.out]; rfl, rfl⟩
  ·
   have f20 : (op == 20) = false := by simpa using h20
   by_cases h21 : op = 21
   ·
    have f21 : (op == 21) = true := by rw [h21]; rfl
    have HR : Hid (r = some 1) := by show _ = _; rw [HA.out, if_pos (by omega)]
    clear HA;go_enter Tryz.func118, Tryz.ntmps118
    go_wp2_with fail
    go_ret2;exact ⟨by rw [← Hz1.out, ← Hz2.out, HR.out]; rfl, rfl⟩
   ·
    have f21 : (op == 21) = false := by simpa using h21
    by_cases h22 : op = 22
    ·
     have f22 : (op == 22) = true := by rw [h22]; rfl
     have HR : Hid (r = some 3) := by show _ = _; rw [HA.out, if_neg (by omega), if_pos (by omega)]
     clear HA;go_enter Tryz.func118, Tryz.ntmps118
     go_wp2_with fail
     go_ret2;exact ⟨by rw [← Hz1.out, ← Hz2.out, HR.out]; rfl, rfl⟩
    ·
     have f22 : (op == 22) = false := by simpa using h22
     by_cases h28 : op = 28
     ·
      have f28 : (op == 28) = true := by rw [h28]; rfl
      have HR : Hid (r = some 3) := by show _ = _; rw [HA.out, if_neg (by omega), if_pos (by omega)]
      clear HA;go_enter Tryz.func118, Tryz.ntmps118
      go_wp2_with fail
      go_ret2;exact ⟨by rw [← Hz1.out, ← Hz2.out, HR.out]; rfl, rfl⟩
     ·
      have f28 : (op == 28) = false := by simpa using h28
      by_cases g1 : 4 ≤ op
      ·
       have e1 : decide ((4 : Int) ≤ op) = true := decide_eq_true g1
       by_cases g2 : op ≤ 23
       ·
        have e2 : decide (op ≤ (23 : Int)) = true := decide_eq_true g2
        have HR : Hid (r = some 2) := by show _ = _; rw [HA.out, if_neg (by omega), if_neg (by omega), if_pos (by omega)]
        clear HA;go_enter Tryz.func118, Tryz.ntmps118
        go_wp2_with fail
        go_ret2;exact ⟨by rw [← Hz1.out, ← Hz2.out, HR.out]; rfl, rfl⟩
       ·
        have e2 : decide (op ≤ (23 : Int)) = false := decide_eq_false g2
        by_cases h27 : op = 27
        ·
         have f27 : (op == 27) = true := by rw [h27]; rfl
         have HR : Hid (r = some 2) := by show _ = _; rw [HA.out, if_neg (by omega), if_neg (by omega), if_pos (by omega)]
         clear HA;go_enter Tryz.func118, Tryz.ntmps118
         go_wp2_with fail
         go_ret2;exact ⟨by rw [← Hz1.out, ← Hz2.out, HR.out]; rfl, rfl⟩
        ·
         have f27 : (op == 27) = false := by simpa using h27
         by_cases h29 : op = 29
         ·
          have f29 : (op == 29) = true := by rw [h29]; rfl
          have HR : Hid (r = some 2) := by show _ = _; rw [HA.out, if_neg (by omega), if_neg (by omega), if_pos (by omega)]
          clear HA;go_enter Tryz.func118, Tryz.ntmps118
          go_wp2_with fail
          go_ret2;exact ⟨by rw [← Hz1.out, ← Hz2.out, HR.out]; rfl, rfl⟩
         ·
          have f29 : (op == 29) = false := by simpa using h29
          have HR : Hid (r = none) := by show _ = _; rw [HA.out, if_neg (by omega), if_neg (by omega), if_neg (by omega)]
          clear HA;go_enter Tryz.func118, Tryz.ntmps118
          go_wp2_with fail
          go_ret2;exact ⟨by rw [← Hz1.out, ← Hz2.out, HR.out]; rfl, rfl⟩
      ·
       have e1 : decide ((4 : Int) ≤ op) = false := decide_eq_false g1
       have f27 : (op == 27) = false := by simp; omega
       have f29 : (op == 29) = false := by simp; omega
       have HR : Hid (r = none) := by show _ = _; rw [HA.out, if_neg (by omega), if_neg (by omega), if_neg (by omega)]
       clear HA;go_enter Tryz.func118, Tryz.ntmps118
       go_wp2_with fail
       go_ret2;exact ⟨by rw [← Hz1.out, ← Hz2.out, HR.out]; rfl, rfl⟩
theorem rHasImm_c (op : Int) (w : World) : Calls Tryz.prog 76 #[.int .i64 op] w fun e w' => e = .returned (.bool (immOp op)) ∧ w' = w := by
 have HA : Hid (immOp op = decide (op = 23 ∨ op = 27 ∨ op = 28)) := rfl;obtain ⟨r, Hr⟩ := nm (immOp op);rw [Hr.out] at HA;rw [Hr.out]
 by_cases h1 : op = 23
 ·
  have f1 : (op == 23) = true := by rw [h1]; rfl
  obtain rfl : r = true := by rw [HA.out]; exact decide_eq_true (by omega)
  go_enter Tryz.func76, Tryz.ntmps76
  go_wp2_with fail
  go_ret;exact ⟨rfl, rfl⟩
 ·
  have f1 : (op == 23) = false := by simpa using h1
  by_cases h2 : op = 27
  ·
   have f2 : (op == 27) = true := by rw [h2]; rfl
   obtain rfl : r = true := by rw [HA.out]; exact decide_eq_true (by omega)
   go_enter Tryz.func76, Tryz.ntmps76
   go_wp2_with fail
   go_ret;exact ⟨rfl, rfl⟩
  ·
   have f2 : (op == 27) = false := by simpa using h2
   obtain ⟨b, f3⟩ : ∃ b, (op == 28) = b := ⟨_, rfl⟩
   obtain rfl : r = b := by
    rw [HA.out, ← f3, Bool.eq_iff_iff, beq_iff_eq, decide_eq_true_eq]; omega
   go_enter Tryz.func76, Tryz.ntmps76
   go_wp2_with fail
   go_ret;exact ⟨rfl, rfl⟩
structure Keeps (w : World) (p : Nat) (x y : St) : Prop where
 i : y.i = x.i
 why : y.why = x.why
 ea : y.ea = x.ea
 left : y.left = x.left
 own : ∀ k, y.own p k → x.own p k ∨ w.heap.size ≤ k
theorem Keeps.refl {w : World} {p : Nat} {x : St} : Keeps w p x x := ⟨rfl, rfl, rfl, rfl, fun _ h => .inl h⟩
theorem varF_short {s : Bs} (h : s.length ≠ 2) (c : Nat) (l : Bs) (left : Bool) : varF s c l left = (0, l) := by
 match s, h with
 | [], _ => rfl
 | [_], _ => rfl
 | _ :: _ :: _ :: _, _ => rfl
theorem rLookV_c {w : World} {p : Nat} {A : Option Addr} {c : Nat} {L : List Tok} {x : St} (h : RdS w p A c L x) (hn : x.vs.length ≤ 100000) (ch : UInt8) (left : Bool) :
  Calls Tryz.prog 120 #[.pointer (some ⟨p, 4, none⟩), .int .u8 ch.toNat, .bool left] w fun e w' => e = .returned (.int .i64 (lookF x.vs ch left).1) ∧ ∃ y, RdS w' p A c L y ∧ y.vs = (lookF x.vs ch left).2 ∧ y.ms = x.ms ∧ Keeps w p x y ∧ Upd (x.own p) w w' := by
 refine (rLookup_c w p 4 59 _ x.va x.vc x.vs h.blk rfl h.v h.vp ch left hn).mono ?_;rintro e w' ⟨rfl, VA, vc, hb, hv, hat, hu⟩
 refine ⟨rfl, { x with va := VA, vc := vc, vs := (lookF x.vs ch left).2 }, ⟨hb, ?_, h.le, hv, (h.m.upd hu (fun k hk q => by rcases q with q | q; exact h.mp (q ▸ hk); exact h.vm k q hk)), ?_, ?_, ?_⟩, rfl, rfl, ⟨rfl, rfl, rfl, rfl, ?_⟩, ?_⟩
 ·
  exact h.tok.upd hu (fun k hk hp q => by
   rcases q with q | q
   ·
    omega
   ·
    have := h.vlt k q; omega)
 ·
  exact fun k hk q => by rcases hat k hk with r | r; exact h.vm k r q; have := h.m.lt q; omega
 ·
  exact fun k hk => by rcases hat k hk with r | r; exact h.vlt k r; have := h.blk.lt; omega
 ·
  exact h.mlt
 ·
  rintro k (q | q | q)
  ·
   exact .inl (.inl q)
  ·
   exact (hat k q).imp_left (fun r => .inr (.inl r))
  ·
   exact .inl (.inr (.inr q))
 ·
  exact hu.mono (fun k _ q => by
   rcases q with q | q
   ·
    exact .inl q
   ·
    exact .inr (.inl q))
set_option maxHeartbeats 1000000 in
theorem rVarV_c {w : World} {p : Nat} {A : Option Addr} {c : Nat} {L : List Tok} {x : St} (h : RdS w p A c L x) (hn : x.vs.length ≤ 100000) (s : Bs) (cc : UInt8) (hs : s.length ≤ 1000000) :
  Calls Tryz.prog 97 #[.pointer (some ⟨p, 0, none⟩), .string (kstr s), .int .u8 cc.toNat, .pointer (some ⟨p, 4, none⟩)] w fun e w' => e = .returned (.int .i64 (varF s cc.toNat x.vs x.left).1) ∧ ∃ y, RdS w' p A c L y ∧ y.vs = (varF s cc.toNat x.vs x.left).2 ∧ y.ms = x.ms ∧ Keeps w p x y ∧ Upd (x.own p) w w' := by
 have hz : (kstr s).size = s.length := kstr_size s
 by_cases h2 : s.length = 2
 ·
  match s, h2 with
  | [a, b], _ =>
   have i0 := fun W => run_at_str hz (show 0 < 2 by omega) W
   have i1 := fun W => run_at_str hz (show 1 < 2 by omega) W
   rw [kx_kstr, show ([a, b] : Bs).getD 0 0 = a from rfl, show ((0 : Nat) : Int) = 0 from rfl] at i0;rw [kx_kstr, show ([a, b] : Bs).getD 1 0 = b from rfl, show ((1 : Nat) : Int) = 1 from rfl] at i1;rw [show ([a, b] : Bs).length = 2 from rfl] at hz;have HV : Hid (varF [a, b] cc.toNat x.vs x.left = if a.toNat = cc.toNat ∧ isLw b = true then lookF x.vs b x.left else (0, x.vs)) := rfl
   obtain ⟨str, Hstr⟩ := nm (kstr [a, b]);rw [Hstr.out] at hz i0 i1;rw [Hstr.out]
   by_cases ha : a.toNat = cc.toNat
   ·
    have f0 : (((a.toNat : Nat) : Int) != ((cc.toNat : Nat) : Int)) = false := by rw [ha]; simp
    have CL := Lib.hid (rIsLower_c b w);obtain ⟨lw, Hlw⟩ := nm (isLw b);rw [Hlw.out] at CL HV
    cases lw with
    | true =>
     have HV2 : Hid (varF [a, b] cc.toNat x.vs x.left = lookF x.vs b x.left) := by show _ = _; rw [HV.out, if_pos ⟨ha, rfl⟩]
     obtain ⟨c0, c1, c2, c3, c4, c5, c6⟩ := h.cells;have H := Lib.hid h;clear ha HV h c0 c1 c2 c3 c4 c5;go_enter Tryz.func97, Tryz.ntmps97
     go_wp2_with fail
     refine CL.out.mono ?_;rintro e w1 ⟨rfl, rfl⟩
     go_upto_region 3 with fail
     obtain ⟨wD, HwD⟩ := nm w1.drew
     have uD : Upd Non w1 wD := by rw [← HwD.out]; exact Upd.refl.drew
     have C := Lib.hid (rLookV_c (H.out.non uD) hn b x.left)
     refine wp_region_held_drew (S := fun w' => w'.cell? ⟨p, 6, none⟩ = some (.bool x.left)) (by kernel_rfl) (by rw [HwD.out]; exact cell_upd c6 uD (fun f => f)) (fun hHeld => ?_)
     rw [HwD.out] at hHeld ⊢;refine wpT 0 ?_
     try simp only [put_y, put_z]
     refine wpT 1 ?_
     try simp only [put_y, put_z]
     refine wpT 2 ?_
     try simp only [put_y, put_z]
     refine wpT 3 ?_
     try simp only [put_y, put_z]
     refine wpT 4 ?_
     try simp only [put_y, put_z]
     refine wpT 5 ?_
     try simp only [put_y, put_z]
     refine wpT 6 ?_
     try simp only [put_y, put_z]
     refine wpAnyH_ready (rs := [7]) (by kernel_rfl) (by simp) ?_;refine AllReadyH.cons rfl (fun K hK => ?_) AllReadyH.nil;go_simp;refine C.out.mono ?_;rintro e w2 ⟨rfl, y, hy, hy1, hy2, hk, hu⟩
     go_wp2_with fail
     have d6 := hy.cells.2.2.2.2.2.2;rw [hk.left] at d6;refine hK.out _ _ ?_ (fun hHeld => ?_)
     ·
      exact d6
     clear hK K
     try simp only [put_y, put_z]
     refine wpT 8 ?_
     try simp only [put_y, put_z]
     refine wpAnyH_done (by kernel_rfl) ?_ _;have hk2 : Keeps w1 p x y := ⟨hk.i, hk.why, hk.ea, hk.left, fun k q => (hk.own k q).imp_right (fun r => Nat.le_trans uD.size r)⟩;have hu2 : Upd (x.own p) w1 w2 := (uD.mono (fun _ _ f => f.elim)).trans hu (fun _ _ h => h);have hv2 := HV2.out;clear hHeld C CL
     go_wp2_with fail
     go_ret;refine ⟨by rw [hv2]; rfl, y, hy, by rw [hv2]; exact hy1, hy2, hk2, hu2⟩
    | false =>
     have HV2 : Hid (varF [a, b] cc.toNat x.vs x.left = (0, x.vs)) := by show _ = _; rw [HV.out, if_neg (fun q => by cases q.2)]
     have H := Lib.hid h;clear ha HV h;go_enter Tryz.func97, Tryz.ntmps97
     go_wp2_with fail
     refine CL.out.mono ?_;rintro e w1 ⟨rfl, rfl⟩
     go_wp2_with fail
     go_ret;exact ⟨by rw [HV2.out]; rfl, x, H.out, by rw [HV2.out], rfl, Keeps.refl, Upd.refl⟩
   ·
    have f0 : (((a.toNat : Nat) : Int) != ((cc.toNat : Nat) : Int)) = true := by simp; omega
    have HV2 : Hid (varF [a, b] cc.toNat x.vs x.left = (0, x.vs)) := by show _ = _; rw [HV.out, if_neg (fun q => ha q.1)]
    have H := Lib.hid h;clear ha HV h;go_enter Tryz.func97, Tryz.ntmps97
    go_wp2_with fail
    go_ret;exact ⟨by rw [HV2.out]; rfl, x, H.out, by rw [HV2.out], rfl, Keeps.refl, Upd.refl⟩
 ·
  have hv := varF_short h2 cc.toNat x.vs x.left;have HV := Lib.hid hv;have H := Lib.hid h;obtain ⟨n, Hn⟩ := nm s.length;rw [Hn.out] at hz hs h2
  have f0 : (((n : Nat) : Int) != 2) = true := by simp; omega
  obtain ⟨str, Hstr⟩ := nm (kstr s);rw [Hstr.out] at hz;rw [Hstr.out];clear hv h;go_enter Tryz.func97, Tryz.ntmps97
  go_wp2_with fail
  go_ret;exact ⟨by rw [HV.out]; rfl, x, H.out, by rw [HV.out], rfl, Keeps.refl, Upd.refl⟩
theorem rLookM_c {w : World} {p : Nat} {A : Option Addr} {c : Nat} {L : List Tok} {x : St} (h : RdS w p A c L x) (hn : x.ms.length ≤ 100000) (ch : UInt8) (left : Bool) :
  Calls Tryz.prog 120 #[.pointer (some ⟨p, 5, none⟩), .int .u8 ch.toNat, .bool left] w fun e w' => e = .returned (.int .i64 (lookF x.ms ch left).1) ∧ ∃ y, RdS w' p A c L y ∧ y.ms = (lookF x.ms ch left).2 ∧ y.vs = x.vs ∧ Keeps w p x y ∧ Upd (x.own p) w w' := by
 refine (rLookup_c w p 5 59 _ x.ma x.mc x.ms h.blk rfl h.m h.mp ch left hn).mono ?_;rintro e w' ⟨rfl, VA, vc, hb, hv, hat, hu⟩
 refine ⟨rfl, { x with ma := VA, mc := vc, ms := (lookF x.ms ch left).2 }, ⟨hb, ?_, h.le, (h.v.upd hu (fun k hk q => by rcases q with q | q; exact h.vp (q ▸ hk); exact h.vm k hk q)), hv, ?_, ?_, ?_⟩, rfl, rfl, ⟨rfl, rfl, rfl, rfl, ?_⟩, ?_⟩
 ·
  exact h.tok.upd hu (fun k hk hp q => by
   rcases q with q | q
   ·
    omega
   ·
    have := h.mlt k q; omega)
 ·
  exact fun k hk q => by rcases hat k q with r | r; exact h.vm k hk r; have := h.v.lt hk; omega
 ·
  exact h.vlt
 ·
  exact fun k hk => by rcases hat k hk with r | r; exact h.mlt k r; have := h.blk.lt; omega
 ·
  rintro k (q | q | q)
  ·
   exact .inl (.inl q)
  ·
   exact .inl (.inr (.inl q))
  ·
   exact (hat k q).imp_left (fun r => .inr (.inr r))
 ·
  exact hu.mono (fun k _ q => by
   rcases q with q | q
   ·
    exact .inl q
   ·
    exact .inr (.inr q))
set_option maxHeartbeats 1000000 in
theorem rVarM_c {w : World} {p : Nat} {A : Option Addr} {c : Nat} {L : List Tok} {x : St} (h : RdS w p A c L x) (hn : x.ms.length ≤ 100000) (s : Bs) (cc : UInt8) (hs : s.length ≤ 1000000) :
  Calls Tryz.prog 97 #[.pointer (some ⟨p, 0, none⟩), .string (kstr s), .int .u8 cc.toNat, .pointer (some ⟨p, 5, none⟩)] w fun e w' => e = .returned (.int .i64 (varF s cc.toNat x.ms x.left).1) ∧ ∃ y, RdS w' p A c L y ∧ y.ms = (varF s cc.toNat x.ms x.left).2 ∧ y.vs = x.vs ∧ Keeps w p x y ∧ Upd (x.own p) w w' := by
 have hz : (kstr s).size = s.length := kstr_size s
 by_cases h2 : s.length = 2
 ·
  match s, h2 with
  | [a, b], _ =>
   have i0 := fun W => run_at_str hz (show 0 < 2 by omega) W
   have i1 := fun W => run_at_str hz (show 1 < 2 by omega) W
   rw [kx_kstr, show ([a, b] : Bs).getD 0 0 = a from rfl, show ((0 : Nat) : Int) = 0 from rfl] at i0;rw [kx_kstr, show ([a, b] : Bs).getD 1 0 = b from rfl, show ((1 : Nat) : Int) = 1 from rfl] at i1;rw [show ([a, b] : Bs).length = 2 from rfl] at hz;have HV : Hid (varF [a, b] cc.toNat x.ms x.left = if a.toNat = cc.toNat ∧ isLw b = true then lookF x.ms b x.left else (0, x.ms)) := rfl
   obtain ⟨str, Hstr⟩ := nm (kstr [a, b]);rw [Hstr.out] at hz i0 i1;rw [Hstr.out]
   by_cases ha : a.toNat = cc.toNat
   ·
    have f0 : (((a.toNat : Nat) : Int) != ((cc.toNat : Nat) : Int)) = false := by rw [ha]; simp
    have CL := Lib.hid (rIsLower_c b w);obtain ⟨lw, Hlw⟩ := nm (isLw b);rw [Hlw.out] at CL HV
    cases lw with
    | true =>
     have HV2 : Hid (varF [a, b] cc.toNat x.ms x.left = lookF x.ms b x.left) := by show _ = _; rw [HV.out, if_pos ⟨ha, rfl⟩]
     obtain ⟨c0, c1, c2, c3, c4, c5, c6⟩ := h.cells;have H := Lib.hid h;clear ha HV h c0 c1 c2 c3 c4 c5;go_enter Tryz.func97, Tryz.ntmps97
     go_wp2_with fail
     refine CL.out.mono ?_;rintro e w1 ⟨rfl, rfl⟩
     go_upto_region 3 with fail
     obtain ⟨wD, HwD⟩ := nm w1.drew
     have uD : Upd Non w1 wD := by rw [← HwD.out]; exact Upd.refl.drew
     have C := Lib.hid (rLookM_c (H.out.non uD) hn b x.left)
     refine wp_region_held_drew (S := fun w' => w'.cell? ⟨p, 6, none⟩ = some (.bool x.left)) (by kernel_rfl) (by rw [HwD.out]; exact cell_upd c6 uD (fun f => f)) (fun hHeld => ?_)
     rw [HwD.out] at hHeld ⊢;refine wpT 0 ?_
     try simp only [put_y, put_z]
     refine wpT 1 ?_
     try simp only [put_y, put_z]
     refine wpT 2 ?_
     try simp only [put_y, put_z]
     refine wpT 3 ?_
     try simp only [put_y, put_z]
     refine wpT 4 ?_
     try simp only [put_y, put_z]
     refine wpT 5 ?_
     try simp only [put_y, put_z]
     refine wpT 6 ?_
     try simp only [put_y, put_z]
     refine wpAnyH_ready (rs := [7]) (by kernel_rfl) (by simp) ?_;refine AllReadyH.cons rfl (fun K hK => ?_) AllReadyH.nil;go_simp;refine C.out.mono ?_;rintro e w2 ⟨rfl, y, hy, hy1, hy2, hk, hu⟩
     go_wp2_with fail
     have d6 := hy.cells.2.2.2.2.2.2;rw [hk.left] at d6;refine hK.out _ _ ?_ (fun hHeld => ?_)
     ·
      exact d6
     clear hK K
     try simp only [put_y, put_z]
     refine wpT 8 ?_
     try simp only [put_y, put_z]
     refine wpAnyH_done (by kernel_rfl) ?_ _;have hk2 : Keeps w1 p x y := ⟨hk.i, hk.why, hk.ea, hk.left, fun k q => (hk.own k q).imp_right (fun r => Nat.le_trans uD.size r)⟩;have hu2 : Upd (x.own p) w1 w2 := (uD.mono (fun _ _ f => f.elim)).trans hu (fun _ _ h => h);have hv2 := HV2.out;clear hHeld C CL
     go_wp2_with fail
     go_ret;refine ⟨by rw [hv2]; rfl, y, hy, by rw [hv2]; exact hy1, hy2, hk2, hu2⟩
    | false =>
     have HV2 : Hid (varF [a, b] cc.toNat x.ms x.left = (0, x.ms)) := by show _ = _; rw [HV.out, if_neg (fun q => by cases q.2)]
     have H := Lib.hid h;clear ha HV h;go_enter Tryz.func97, Tryz.ntmps97
     go_wp2_with fail
     refine CL.out.mono ?_;rintro e w1 ⟨rfl, rfl⟩
     go_wp2_with fail
     go_ret;exact ⟨by rw [HV2.out]; rfl, x, H.out, by rw [HV2.out], rfl, Keeps.refl, Upd.refl⟩
   ·
    have f0 : (((a.toNat : Nat) : Int) != ((cc.toNat : Nat) : Int)) = true := by simp; omega
    have HV2 : Hid (varF [a, b] cc.toNat x.ms x.left = (0, x.ms)) := by show _ = _; rw [HV.out, if_neg (fun q => ha q.1)]
    have H := Lib.hid h;clear ha HV h;go_enter Tryz.func97, Tryz.ntmps97
    go_wp2_with fail
    go_ret;exact ⟨by rw [HV2.out]; rfl, x, H.out, by rw [HV2.out], rfl, Keeps.refl, Upd.refl⟩
 ·
  have hv := varF_short h2 cc.toNat x.ms x.left;have HV := Lib.hid hv;have H := Lib.hid h;obtain ⟨n, Hn⟩ := nm s.length;rw [Hn.out] at hz hs h2
  have f0 : (((n : Nat) : Int) != 2) = true := by simp; omega
  obtain ⟨str, Hstr⟩ := nm (kstr s);rw [Hstr.out] at hz;rw [Hstr.out];clear hv h;go_enter Tryz.func97, Tryz.ntmps97
  go_wp2_with fail
  go_ret;exact ⟨by rw [HV.out]; rfl, x, H.out, by rw [HV.out], rfl, Keeps.refl, Upd.refl⟩
def dotF (s : Bs) : Nat := (s.takeWhile (fun c => decide (c.toNat ≠ 46))).length
theorem dot_step {s : Bs} {k : Nat} (h : k < s.length) : dotF (s.drop k) = if (s.getD k 0).toNat = 46 then 0 else dotF (s.drop (k + 1)) + 1 := by
 rw [drop_cons h];unfold dotF;rw [List.takeWhile_cons];generalize s.getD k 0 = ch
 by_cases e : ch.toNat = 46
 ·
  rw [if_pos e, if_neg (by simp [e])]; rfl
 ·
  rw [if_neg e, if_pos (by simp [e])]; rfl
theorem dot_take (s : Bs) : s.take (dotF s) = s.takeWhile (fun c => decide (c.toNat ≠ 46)) := by
 unfold dotF
 induction s with
 | nil => rfl
 | cons a r ih =>
  rw [List.takeWhile_cons]
  split
  ·
   rw [List.length_cons, List.take_succ_cons, ih]
  ·
   rfl
theorem dot_le (s : Bs) : dotF s ≤ s.length := by
 unfold dotF;exact (List.takeWhile_sublist _).length_le
def psOf (x : St) : PS := ⟨x.i, x.vs, x.ms⟩
theorem oper_eq (left : Bool) (s : Bs) (x : PS) : operF left s x = (match opF (s.take (dotF s)) with
  | none => none
  | some op =>
   if (arF op).isNone ∨ immOp op ≠ decide (dotF s < s.length) then none
   else if immOp op = false then some (.mk 0 op 0 0 [], x)
   else match decF (s.drop (dotF s + 1)) with
    | some n => some (.mk 0 op n 0 [], x)
    | none => match s.drop (dotF s + 1) with
     | [c] => if isLw c = true ∧ 0 < (lookF x.ms c left).1 then some (.mk 0 op 0 (lookF x.ms c left).1 [], { x with ms := (lookF x.ms c left).2 }) else none
     | _ => none) := by
 have e : (s.drop (dotF s)).tail = s.drop (dotF s + 1) := by rw [List.tail_drop]
 rw [dot_take];unfold operF;dsimp only;rw [show (List.takeWhile (fun c => decide (c.toNat ≠ 46)) s).length = dotF s from rfl, e];rfl
def OperP (w : World) (p : Nat) (A : Option Addr) (c : Nat) (L : List Tok) (x : St) (o : Option (Pt × PS)) (e : Ending) (w' : World) : Prop :=
 ∃ (q : Pt) (b : Bool) (y : St), e = .returned (.tuple #[pv q none 0, .bool b]) ∧ q.kids = [] ∧ RdS w' p A c L y ∧ y.vs = x.vs ∧ Keeps w p x y ∧ Upd (x.own p) w w' ∧ (b = true → ∃ ps, o = some (q, ps) ∧ ps.i = x.i ∧ ps.vs = x.vs ∧ y.ms = ps.ms) ∧ (b = false → o = none)
set_option maxRecDepth 100000 in
set_option maxHeartbeats 4000000 in
theorem rOperation_c {w : World} {p : Nat} {A : Option Addr} {c : Nat} {L : List Tok} {x : St} (h : RdS w p A c L x) (hn : x.ms.length ≤ 100000) (s : Bs) (hs : s.length ≤ 1000000) :
  Calls Tryz.prog 117 #[.pointer (some ⟨p, 0, none⟩), .string (kstr s)] w (OperP w p A c L x (operF x.left s (psOf x))) := by
 have HO : Hid (operF x.left s (psOf x) = _) := oper_eq x.left s (psOf x);obtain ⟨o, Ho⟩ := nm (operF x.left s (psOf x));rw [Ho.out] at HO;rw [Ho.out];have hz : (kstr s).size = s.length := kstr_size s;obtain ⟨n, Hn⟩ := nm s.length;rw [Hn.out] at hz hs HO;have hdl := dot_le s;rw [Hn.out] at hdl
 obtain ⟨W, HW⟩ := nm (w.alloc (.cells #[.int .i64 0, .int .i64 0, .int .i64 0, .int .i64 0, .slice none 0 0] 40))
 have hU : Upd Non w W := by rw [← HW.out]; exact Upd.refl.alloc _
 have hb : Blk W w.heap.size 40 #[.int .i64 0, .int .i64 0, .int .i64 0, .int .i64 0, .slice none 0 0] := by rw [← HW.out]; exact Blk.new _ _ _
 have e0 := HW.out;have hpw : p < w.heap.size := h.blk.lt;have HR := Lib.hid (h.non hU);have H := Lib.hid h;have HB := Lib.hid hb;have HUU := Lib.hid hU;clear h hb hU HW;go_enter Tryz.func117, Tryz.ntmps117
 go_wp2_with fail
 go_loopg [6] (n + 1) (fun g a wr => ∃ k : Nat, Hid (g = n + 1 - k) ∧ k ≤ n ∧ a = .int .i64 k ∧ Hid (dotF s = k + dotF (s.drop k)) ∧ wr = W)
 case atStart => exact ⟨0, rfl, by omega, rfl, by show _ = _; rw [List.drop_zero]; omega, rfl⟩
 case round =>
  obtain ⟨k, Hg, hk, rfl, HK, hwr⟩ := hrel;subst hwr;obtain ⟨D, HD⟩ := nm (decide (k < n) && decide ((s.getD k 0).toNat ≠ 46))
  go_upto_region 2 with fail
  go_cut [24] (fun s wx => s = .bool D ∧ wx = wr)
  case first =>
   by_cases hlt : k < n
   ·
    have ti : decide ((k : Int) < (n : Int)) = true := decide_eq_true (by omega)
    have i1 := fun W => run_at_str hz hlt W
    rw [kx_kstr] at i1;generalize (s.getD k 0).toNat = y at i1 HD;obtain ⟨b, f1⟩ : ∃ b, (((y : Int)) != 46) = b := ⟨_, rfl⟩
    obtain rfl : D = b := by
     rw [← HD.out, ← f1, decide_eq_true hlt, Bool.true_and, Bool.eq_iff_iff, decide_eq_true_eq, bne_iff_ne];omega
    clear HD
    go_wp2_with fail
    go_meet
    case rel => exact ⟨rfl, rfl⟩
   ·
    have ti : decide ((k : Int) < (n : Int)) = false := decide_eq_false (by omega)
    obtain rfl : D = false := by rw [← HD.out, decide_eq_false hlt]; rfl
    clear HD
    go_wp2_with fail
    go_meet
    case rel => exact ⟨rfl, rfl⟩
  case rest =>
   obtain ⟨rfl, hwc⟩ := hcut;have hwc2 : wr = wc := hwc.symm;subst hwc2
   cases D with
   | true =>
    have hd := HD.out;simp only [Bool.and_eq_true, decide_eq_true_eq] at hd;have hk2 := hd.1
    have HK2 : Hid (dotF s = k + 1 + dotF (s.drop (k + 1))) := by
     show _ = _;have := dot_step (s := s) (k := k) (by rw [Hn.out]; exact hd.1);rw [if_neg hd.2] at this;rw [HK.out, this]; omega
    clear hd HD HK hwc
    go_wp2_with fail
    go_roundg (n + 1 - (k + 1))
    case measure => rw [Hg.out]; omega
    case rel => exact ⟨k + 1, rfl, by omega, by go_num, HK2, rfl⟩
   | false =>
    have hdk : dotF s = k := by
     by_cases hlt : k < n
     ·
      have hd := HD.out;rw [decide_eq_true hlt, Bool.true_and, decide_eq_false_iff_not] at hd;have := dot_step (s := s) (k := k) (by rw [Hn.out]; exact hlt);rw [if_pos (by omega)] at this;rw [HK.out, this]; rfl
     ·
      have : s.drop k = [] := List.drop_of_length_le (by rw [Hn.out]; omega);rw [HK.out, this]; rfl
    rw [hdk] at HO;clear HD HK hwc Hg hdl hdk
    have hto := fun W => run_to_str Hn.out hk W
    have CO := Lib.hid (tOp_c (s.take k) wr);obtain ⟨ts, Hts⟩ := nm (kstr (s.take k));rw [Hts.out] at hto CO
    have hfr : k + 1 ≤ n → ∀ W, (Instr.slice 9 (.string (kstr s)) (some (.int .i64 ((k : Int) + 1))) none none).run Tryz.prog W = .ok (.string (kstr (s.drop (k + 1)))) W := fun q W => run_from_str Hn.out q W
    obtain ⟨str, Hstr⟩ := nm (kstr s);rw [Hstr.out] at hz hto hfr ⊢;have HFR := Lib.hid hfr;clear hfr
    cases hop : opF (s.take k) with
    | none =>
     rw [hop] at CO HO;have HN : Hid (o = none) := HO.out;have CA := Lib.hid (fun W => rArity_c 0 W);rw [show arF 0 = none from rfl] at CA;simp only [Option.getD_none, Option.isSome_none] at CO CA;clear hop HO HFR
     go_wp2_with fail
     refine CO.out.mono ?_;rintro e w9 ⟨rfl, hu9⟩
     go_wp2_with fail
     refine (CA.out _).mono ?_;rintro e w10 ⟨rfl, rfl⟩;obtain ⟨w9, rfl⟩ : ∃ x : World, x = w10 := ⟨_, rfl⟩;clear CO CA;have b9 := HB.out.upd hu9 (fun f => f);have y0 := b9.cell 0;have y1 := b9.cell 1;have y2 := b9.cell 2;have y3 := b9.cell 3;have y4 := b9.cell 4;have yf := b9.frozen;have HB9 := Lib.hid b9;clear b9
     go_wp2_with fail
     rw [set5_eq];have us := set5_upd w9 w.heap.size;refine bodyPost_ret (results_cell_row_tmp rfl _ _ w.heap.size 40 _ (0, 0) _ rfl (set5_blk HB9.out _ _ _ _ _) Tryz.underlying40 rfl (by kernel_rfl)) rfl ?_
     refine ⟨.mk 0 0 0 0 [], false, x, rfl, rfl, (HR.out.non hu9).upd (us _ _ _ _ _) (fun j _ e => ?_), rfl, Keeps.refl, ((HUU.out.then_non hu9).trans (us _ _ _ _ _) (fun j hj e => by omega)).mono (fun _ _ f => f.elim), (fun q => by cases q), fun _ => HN.out⟩
     subst e;have hv := H.out.v.lt (k := w.heap.size);have hm := H.out.m.lt (k := w.heap.size);exact ⟨hpw, fun q => Nat.lt_irrefl _ (hv q), fun q => Nat.lt_irrefl _ (hm q)⟩
    | some op =>
     rw [hop] at CO HO
     have HO2 : Hid (o = if (arF op).isNone ∨ immOp op ≠ decide (k < n) then none
       else if immOp op = false then some (.mk 0 op 0 0 [], psOf x)
       else match decF (s.drop (k + 1)) with
        | some n => some (.mk 0 op n 0 [], psOf x)
        | none => match s.drop (k + 1) with
         | [c] => if isLw c = true ∧ 0 < (lookF x.ms c x.left).1 then some (.mk 0 op 0 (lookF x.ms c x.left).1 [], { psOf x with ms := (lookF x.ms c x.left).2 }) else none
         | _ => none) := HO.out
     have HO := HO2;clear HO2;have CA := Lib.hid (fun W => rArity_c op W);have CI := Lib.hid (fun W => rHasImm_c op W);simp only [Option.getD_some, Option.isSome_some] at CO;clear hop;obtain ⟨oi, Hoi⟩ := nm ((op : Nat) : Int);rw [Hoi.out] at CO CA CI HO
     cases har : arF oi with
     | none =>
      rw [har] at CA HO
      have HN : Hid (o = none) := by show _ = _; rw [HO.out, if_pos (.inl rfl)]
      simp only [Option.getD_none, Option.isSome_none] at CA;clear har HO HFR CI
      go_wp2_with fail
      refine CO.out.mono ?_;rintro e w9 ⟨rfl, hu9⟩
      go_wp2_with fail
      refine (CA.out _).mono ?_;rintro e w10 ⟨rfl, rfl⟩;obtain ⟨w9, rfl⟩ : ∃ x : World, x = w10 := ⟨_, rfl⟩;clear CO CA;have b9 := HB.out.upd hu9 (fun f => f);have y0 := b9.cell 0;have y1 := b9.cell 1;have y2 := b9.cell 2;have y3 := b9.cell 3;have y4 := b9.cell 4;have yf := b9.frozen;have HB9 := Lib.hid b9;clear b9
      go_wp2_with fail
      rw [set5_eq];have us := set5_upd w9 w.heap.size;refine bodyPost_ret (results_cell_row_tmp rfl _ _ w.heap.size 40 _ (0, 0) _ rfl (set5_blk HB9.out _ _ _ _ _) Tryz.underlying40 rfl (by kernel_rfl)) rfl ?_
      refine ⟨.mk 0 0 0 0 [], false, x, rfl, rfl, (HR.out.non hu9).upd (us _ _ _ _ _) (fun j _ e => ?_), rfl, Keeps.refl, ((HUU.out.then_non hu9).trans (us _ _ _ _ _) (fun j hj e => by omega)).mono (fun _ _ f => f.elim), (fun q => by cases q), fun _ => HN.out⟩
      subst e;have hv := H.out.v.lt (k := w.heap.size);have hm := H.out.m.lt (k := w.heap.size);exact ⟨hpw, fun q => Nat.lt_irrefl _ (hv q), fun q => Nat.lt_irrefl _ (hm q)⟩
     | some ar =>
      rw [har] at CA HO;simp only [Option.getD_some, Option.isSome_some] at CA;obtain ⟨im, Him⟩ := nm (immOp oi);rw [Him.out] at CI HO;obtain ⟨ari, Hari⟩ := nm ((ar : Nat) : Int);rw [Hari.out] at CA
      by_cases hlt : k < n
      ·
       have fl : decide ((k : Int) < (n : Int)) = true := decide_eq_true (by omega)
       cases im with
       | false =>
        have HN : Hid (o = none) := by show _ = _; rw [HO.out, if_pos (.inr (by simp [hlt]))]
        clear har HO HFR
        go_wp2_with fail
        refine CO.out.mono ?_;rintro e w9 ⟨rfl, hu9⟩
        go_wp2_with fail
        refine (CA.out _).mono ?_;rintro e w10 ⟨rfl, rfl⟩
        go_wp2_with fail
        refine (CI.out _).mono ?_;rintro e w11 ⟨rfl, rfl⟩;clear CO CA;obtain ⟨w9, rfl⟩ : ∃ x : World, x = w11 := ⟨_, rfl⟩;clear CI;have b9 := HB.out.upd hu9 (fun f => f);have y0 := b9.cell 0;have y1 := b9.cell 1;have y2 := b9.cell 2;have y3 := b9.cell 3;have y4 := b9.cell 4;have yf := b9.frozen;have HB9 := Lib.hid b9;clear b9
        go_wp2_with fail
        rw [set5_eq];have us := set5_upd w9 w.heap.size;refine bodyPost_ret (results_cell_row_tmp rfl _ _ w.heap.size 40 _ (0, 0) _ rfl (set5_blk HB9.out _ _ _ _ _) Tryz.underlying40 rfl (by kernel_rfl)) rfl ?_
        refine ⟨.mk 0 0 0 0 [], false, x, rfl, rfl, (HR.out.non hu9).upd (us _ _ _ _ _) (fun j _ e => ?_), rfl, Keeps.refl, ((HUU.out.then_non hu9).trans (us _ _ _ _ _) (fun j hj e => by omega)).mono (fun _ _ f => f.elim), (fun q => by cases q), fun _ => HN.out⟩
        subst e;have hv := H.out.v.lt (k := w.heap.size);have hm := H.out.m.lt (k := w.heap.size);exact ⟨hpw, fun q => Nat.lt_irrefl _ (hv q), fun q => Nat.lt_irrefl _ (hm q)⟩
       | true =>
        have HO3 : Hid (o = match decF (s.drop (k + 1)) with
          | some n => some (.mk 0 oi n 0 [], psOf x)
          | none => match s.drop (k + 1) with
           | [c] => if isLw c = true ∧ 0 < (lookF x.ms c x.left).1 then some (.mk 0 oi 0 (lookF x.ms c x.left).1 [], { psOf x with ms := (lookF x.ms c x.left).2 }) else none
           | _ => none) := by
         show _ = _;rw [HO.out, if_neg (by simp [hlt]), if_neg (by decide)]
        have hfr := HFR.out (by omega);clear har HO HFR;obtain ⟨t, Ht⟩ := nm (s.drop (k + 1));rw [Ht.out] at HO3 hfr
        have htl : t.length ≤ 1000000 := by rw [← Ht.out, List.length_drop]; have := Hn.out; omega
        have CW := Lib.hid (fun W => wParse_c t W htl);obtain ⟨tq, Htq⟩ := nm (kstr t);rw [Htq.out] at hfr CW
        have htz : tq.size = t.length := by rw [← Htq.out, kstr_size]
        cases hd : decF t with
        | some nn =>
         rw [hd] at CW HO3;simp only [Option.getD_some, Option.isSome_some] at CW;have HS : Hid (o = some (.mk 0 oi nn 0 [], psOf x)) := HO3.out;clear hd HO3 htz
         go_wp2_with fail
         refine CO.out.mono ?_;rintro e w9 ⟨rfl, hu9⟩
         go_wp2_with fail
         refine (CA.out _).mono ?_;rintro e w10 ⟨rfl, rfl⟩
         go_wp2_with fail
         refine (CI.out _).mono ?_;rintro e w11 ⟨rfl, rfl⟩;clear CO CA
         go_wp2_with fail
         refine (CI.out _).mono ?_;rintro e w12 ⟨rfl, rfl⟩
         go_wp2_with fail
         refine (CW.out _).mono ?_;rintro e w13 ⟨rfl, rfl⟩;clear CI CW;obtain ⟨w9, rfl⟩ : ∃ x : World, x = w13 := ⟨_, rfl⟩;have b9 := HB.out.upd hu9 (fun f => f);have y0 := b9.cell 0;have y1 := b9.cell 1;have y2 := b9.cell 2;have y3 := b9.cell 3;have y4 := b9.cell 4;have yf := b9.frozen;have HB9 := Lib.hid b9;clear b9
         go_wp2_with fail
         rw [set5_eq];have us := set5_upd w9 w.heap.size;refine bodyPost_ret (results_cell_row_tmp rfl _ _ w.heap.size 40 _ (0, 0) _ rfl (set5_blk HB9.out _ _ _ _ _) Tryz.underlying40 rfl (by kernel_rfl)) rfl ?_
         refine ⟨_, true, x, rfl, rfl, (HR.out.non hu9).upd (us _ _ _ _ _) (fun j _ e => ?_), rfl, Keeps.refl, ((HUU.out.then_non hu9).trans (us _ _ _ _ _) (fun j hj e => by omega)).mono (fun _ _ f => f.elim), (fun _ => ⟨psOf x, HS.out, rfl, rfl, rfl⟩), (fun q => by cases q)⟩
         subst e;have hv := H.out.v.lt (k := w.heap.size);have hm := H.out.m.lt (k := w.heap.size);exact ⟨hpw, fun q => Nat.lt_irrefl _ (hv q), fun q => Nat.lt_irrefl _ (hm q)⟩
        | none =>
         rw [hd] at CW HO3;simp only [Option.getD_none, Option.isSome_none] at CW;clear hd
         by_cases ht1 : t.length = 1
         ·
          obtain ⟨cc, rfl⟩ : ∃ cc, t = [cc] := List.length_eq_one_iff.1 ht1;rw [ht1] at htz
          have i5 := fun W => run_at_str htz (show 0 < 1 by omega) W
          rw [← Htq.out, kx_kstr, show ([cc] : Bs).getD 0 0 = cc from rfl, show ((0 : Nat) : Int) = 0 from rfl, Htq.out] at i5
          have HO4 : Hid (o = if isLw cc = true ∧ 0 < (lookF x.ms cc x.left).1 then some (.mk 0 oi 0 (lookF x.ms cc x.left).1 [], { psOf x with ms := (lookF x.ms cc x.left).2 }) else none) := HO3.out
          have CL := Lib.hid (fun W => rIsLower_c cc W);obtain ⟨lw, Hlw⟩ := nm (isLw cc);rw [Hlw.out] at CL HO4;clear HO3 ht1
          cases lw with
          | false =>
           have HN : Hid (o = none) := by show _ = _; rw [HO4.out, if_neg (fun q => by cases q.1)]
           clear HO4
           go_wp2_with fail
           refine CO.out.mono ?_;rintro e w9 ⟨rfl, hu9⟩
           go_wp2_with fail
           refine (CA.out _).mono ?_;rintro e w10 ⟨rfl, rfl⟩
           go_wp2_with fail
           refine (CI.out _).mono ?_;rintro e w11 ⟨rfl, rfl⟩;clear CO CA
           go_wp2_with fail
           refine (CI.out _).mono ?_;rintro e w12 ⟨rfl, rfl⟩
           go_wp2_with fail
           refine (CW.out _).mono ?_;rintro e w13 ⟨rfl, rfl⟩;clear CI CW
           go_wp2_with fail
           refine (CL.out _).mono ?_;rintro e w14 ⟨rfl, rfl⟩;obtain ⟨w9, rfl⟩ : ∃ x : World, x = w14 := ⟨_, rfl⟩;clear CL;have b9 := HB.out.upd hu9 (fun f => f);have y0 := b9.cell 0;have y1 := b9.cell 1;have y2 := b9.cell 2;have y3 := b9.cell 3;have y4 := b9.cell 4;have yf := b9.frozen;have HB9 := Lib.hid b9;clear b9
           go_wp2_with fail
           rw [set5_eq];have us := set5_upd w9 w.heap.size;refine bodyPost_ret (results_cell_row_tmp rfl _ _ w.heap.size 40 _ (0, 0) _ rfl (set5_blk HB9.out _ _ _ _ _) Tryz.underlying40 rfl (by kernel_rfl)) rfl ?_
           refine ⟨.mk 0 0 0 0 [], false, x, rfl, rfl, (HR.out.non hu9).upd (us _ _ _ _ _) (fun j _ e => ?_), rfl, Keeps.refl, ((HUU.out.then_non hu9).trans (us _ _ _ _ _) (fun j hj e => by omega)).mono (fun _ _ f => f.elim), (fun q => by cases q), fun _ => HN.out⟩
           subst e;have hv := H.out.v.lt (k := w.heap.size);have hm := H.out.m.lt (k := w.heap.size);exact ⟨hpw, fun q => Nat.lt_irrefl _ (hv q), fun q => Nat.lt_irrefl _ (hm q)⟩
          | true =>
           go_wp2_with fail
           refine CO.out.mono ?_;rintro e w9 ⟨rfl, hu9⟩
           go_wp2_with fail
           refine (CA.out _).mono ?_;rintro e w10 ⟨rfl, rfl⟩
           go_wp2_with fail
           refine (CI.out _).mono ?_;rintro e w11 ⟨rfl, rfl⟩;clear CO CA
           go_wp2_with fail
           refine (CI.out _).mono ?_;rintro e w12 ⟨rfl, rfl⟩
           go_wp2_with fail
           refine (CW.out _).mono ?_;rintro e w13 ⟨rfl, rfl⟩;clear CI CW
           go_wp2_with fail
           refine (CL.out _).mono ?_;rintro e w14 ⟨rfl, rfl⟩;obtain ⟨wA, rfl⟩ : ∃ x : World, x = w14 := ⟨_, rfl⟩;clear CL
           go_upto_region 16 with fail
           obtain ⟨wD, HwD⟩ := nm wA.drew
           have uD : Upd Non wA wD := by rw [← HwD.out]; exact Upd.refl.drew
           have vD : Upd Non w wD := (HUU.out.then_non hu9).then_non uD;have hRD := H.out.non vD;have d6 := hRD.cells.2.2.2.2.2.2;have CK := Lib.hid (rLookM_c hRD hn cc x.left);have sD := vD.size
           have sD2 : w.heap.size < wD.heap.size := by
            have := HB.out.lt;have := hu9.size;have := uD.size;omega
           clear hRD;refine wp_region_held_drew (S := fun w' => w'.cell? ⟨p, 6, none⟩ = some (.bool x.left)) (by kernel_rfl) (by rw [HwD.out]; exact d6) (fun hHeld => ?_);rw [HwD.out] at hHeld ⊢;refine wpT 0 ?_
           try simp only [put_y, put_z]
           refine wpT 1 ?_
           try simp only [put_y, put_z]
           refine wpT 2 ?_
           try simp only [put_y, put_z]
           refine wpT 3 ?_
           try simp only [put_y, put_z]
           refine wpT 4 ?_
           try simp only [put_y, put_z]
           refine wpT 5 ?_
           try simp only [put_y, put_z]
           refine wpT 6 ?_
           try simp only [put_y, put_z]
           refine wpT 7 ?_
           try simp only [put_y, put_z]
           refine wpT 8 ?_
           try simp only [put_y, put_z]
           refine wpAnyH_ready (rs := [9]) (by kernel_rfl) (by simp) ?_;refine AllReadyH.cons rfl (fun K hK => ?_) AllReadyH.nil;go_simp;refine CK.out.mono ?_;rintro e w2 ⟨rfl, y, hy, hy1, hy2, hky, hu2⟩
           go_wp2_with fail
           have e6 := hy.cells.2.2.2.2.2.2;rw [hky.left] at e6;refine hK.out _ _ ?_ (fun hHeld => ?_)
           ·
            exact e6
           clear hK K
           try simp only [put_y, put_z]
           refine wpT 10 ?_
           try simp only [put_y, put_z]
           refine wpAnyH_done (by kernel_rfl) ?_ _;obtain ⟨kk, Hkk⟩ := nm (lookF x.ms cc x.left);rw [Hkk.out] at hy1 HO4 ⊢
           have hown : ∀ j, y.own p j → j ≠ w.heap.size := fun j hj e => by
            subst e
            rcases hky.own _ hj with q | q
            ·
             have := H.out.lt q; omega
            ·
             omega
           have HY := Lib.hid hy;have HU2 : Hid (Upd (x.own p) w w2) := (vD.mono (fun _ _ f => f.elim)).trans hu2 (fun _ _ q => q);have HKY : Hid (Keeps w p x y) := ⟨hky.i, hky.why, hky.ea, hky.left, fun j hj => (hky.own j hj).imp_right (fun q => by omega)⟩;have HY1 := Lib.hid hy1;have HY2 := Lib.hid hy2
           have b9 : Blk w2 w.heap.size 40 #[.int .i64 0, .int .i64 0, .int .i64 0, .int .i64 0, .slice none 0 0] := ((HB.out.upd hu9 (fun f => f)).upd uD (fun f => f)).upd hu2 (fun q => by have := H.out.lt q; omega)
           have y0 := b9.cell 0;have y1 := b9.cell 1;have y2 := b9.cell 2;have y3 := b9.cell 3;have y4 := b9.cell 4;have yf := b9.frozen;have HB9 := Lib.hid b9;clear b9 hHeld CK hy hy1 hy2 hky hu2 hu9 uD vD HwD d6 e6;obtain ⟨kn, Hkn⟩ := nm kk.1;rw [Hkn.out] at HO4 ⊢
           by_cases hpos : 0 < kn
           ·
            have fp : decide ((0 : Int) < (kn : Int)) = true := decide_eq_true (by omega)
            have HS : Hid (o = some (.mk 0 oi 0 kn [], { psOf x with ms := kk.2 })) := by show _ = _; rw [HO4.out, if_pos ⟨by trivial, hpos⟩]
            clear HO4
            go_wp2_with fail
            rw [set5_eq];have us := set5_upd w2 w.heap.size;refine bodyPost_ret (results_cell_row_tmp rfl _ _ w.heap.size 40 _ (0, 0) _ rfl (set5_blk HB9.out _ _ _ _ _) Tryz.underlying40 rfl (by kernel_rfl)) rfl ?_
            refine ⟨_, true, y, rfl, rfl, HY.out.upd (us _ _ _ _ _) (fun j _ e => by subst e; exact ⟨hpw, fun q => hown _ (.inr (.inl q)) rfl, fun q => hown _ (.inr (.inr q)) rfl⟩), HY2.out, HKY.out, HU2.out.trans (us _ _ _ _ _) (fun j hj e => by omega), (fun _ => ⟨_, HS.out, rfl, rfl, HY1.out⟩), (fun q => by cases q)⟩
           ·
            have fp : decide ((0 : Int) < (kn : Int)) = false := decide_eq_false (by omega)
            have HN : Hid (o = none) := by show _ = _; rw [HO4.out, if_neg (fun q => hpos q.2)]
            clear HO4
            go_wp2_with fail
            rw [set5_eq];have us := set5_upd w2 w.heap.size;refine bodyPost_ret (results_cell_row_tmp rfl _ _ w.heap.size 40 _ (0, 0) _ rfl (set5_blk HB9.out _ _ _ _ _) Tryz.underlying40 rfl (by kernel_rfl)) rfl ?_
            refine ⟨.mk 0 oi 0 kn [], false, y, rfl, rfl, HY.out.upd (us _ _ _ _ _) (fun j _ e => by subst e; exact ⟨hpw, fun q => hown _ (.inr (.inl q)) rfl, fun q => hown _ (.inr (.inr q)) rfl⟩), HY2.out, HKY.out, HU2.out.trans (us _ _ _ _ _) (fun j hj e => by omega), (fun q => by cases q), fun _ => HN.out⟩
         ·
          have HN : Hid (o = none) := by
           show _ = _;rw [HO3.out]
           match t, ht1 with
           | [], _ => rfl
           | _ :: _ :: _, _ => rfl
          obtain ⟨tm, Htm⟩ := nm t.length;rw [Htm.out] at htz ht1
          have ft : (((tm : Nat) : Int) != 1) = true := by simp; omega
          clear HO3
          go_wp2_with fail
          refine CO.out.mono ?_;rintro e w9 ⟨rfl, hu9⟩
          go_wp2_with fail
          refine (CA.out _).mono ?_;rintro e w10 ⟨rfl, rfl⟩
          go_wp2_with fail
          refine (CI.out _).mono ?_;rintro e w11 ⟨rfl, rfl⟩;clear CO CA
          go_wp2_with fail
          refine (CI.out _).mono ?_;rintro e w12 ⟨rfl, rfl⟩
          go_wp2_with fail
          refine (CW.out _).mono ?_;rintro e w13 ⟨rfl, rfl⟩;clear CI CW;obtain ⟨w9, rfl⟩ : ∃ x : World, x = w13 := ⟨_, rfl⟩;have b9 := HB.out.upd hu9 (fun f => f);have y0 := b9.cell 0;have y1 := b9.cell 1;have y2 := b9.cell 2;have y3 := b9.cell 3;have y4 := b9.cell 4;have yf := b9.frozen;have HB9 := Lib.hid b9;clear b9
          go_wp2_with fail
          rw [set5_eq];have us := set5_upd w9 w.heap.size;refine bodyPost_ret (results_cell_row_tmp rfl _ _ w.heap.size 40 _ (0, 0) _ rfl (set5_blk HB9.out _ _ _ _ _) Tryz.underlying40 rfl (by kernel_rfl)) rfl ?_
          refine ⟨.mk 0 0 0 0 [], false, x, rfl, rfl, (HR.out.non hu9).upd (us _ _ _ _ _) (fun j _ e => ?_), rfl, Keeps.refl, ((HUU.out.then_non hu9).trans (us _ _ _ _ _) (fun j hj e => by omega)).mono (fun _ _ f => f.elim), (fun q => by cases q), fun _ => HN.out⟩
          subst e;have hv := H.out.v.lt (k := w.heap.size);have hm := H.out.m.lt (k := w.heap.size);exact ⟨hpw, fun q => Nat.lt_irrefl _ (hv q), fun q => Nat.lt_irrefl _ (hm q)⟩
      ·
       have fl : decide ((k : Int) < (n : Int)) = false := decide_eq_false (by omega)
       cases im with
       | true =>
        have HN : Hid (o = none) := by show _ = _; rw [HO.out, if_pos (.inr (by simp [hlt]))]
        clear har HO HFR
        go_wp2_with fail
        refine CO.out.mono ?_;rintro e w9 ⟨rfl, hu9⟩
        go_wp2_with fail
        refine (CA.out _).mono ?_;rintro e w10 ⟨rfl, rfl⟩
        go_wp2_with fail
        refine (CI.out _).mono ?_;rintro e w11 ⟨rfl, rfl⟩;clear CO CA;obtain ⟨w9, rfl⟩ : ∃ x : World, x = w11 := ⟨_, rfl⟩;clear CI;have b9 := HB.out.upd hu9 (fun f => f);have y0 := b9.cell 0;have y1 := b9.cell 1;have y2 := b9.cell 2;have y3 := b9.cell 3;have y4 := b9.cell 4;have yf := b9.frozen;have HB9 := Lib.hid b9;clear b9
        go_wp2_with fail
        rw [set5_eq];have us := set5_upd w9 w.heap.size;refine bodyPost_ret (results_cell_row_tmp rfl _ _ w.heap.size 40 _ (0, 0) _ rfl (set5_blk HB9.out _ _ _ _ _) Tryz.underlying40 rfl (by kernel_rfl)) rfl ?_
        refine ⟨.mk 0 0 0 0 [], false, x, rfl, rfl, (HR.out.non hu9).upd (us _ _ _ _ _) (fun j _ e => ?_), rfl, Keeps.refl, ((HUU.out.then_non hu9).trans (us _ _ _ _ _) (fun j hj e => by omega)).mono (fun _ _ f => f.elim), (fun q => by cases q), fun _ => HN.out⟩
        subst e;have hv := H.out.v.lt (k := w.heap.size);have hm := H.out.m.lt (k := w.heap.size);exact ⟨hpw, fun q => Nat.lt_irrefl _ (hv q), fun q => Nat.lt_irrefl _ (hm q)⟩
       | false =>
        have HS : Hid (o = some (.mk 0 oi 0 0 [], psOf x)) := by show _ = _; rw [HO.out, if_neg (by simp [hlt]), if_pos rfl]
        clear har HO HFR
        go_wp2_with fail
        refine CO.out.mono ?_;rintro e w9 ⟨rfl, hu9⟩
        go_wp2_with fail
        refine (CA.out _).mono ?_;rintro e w10 ⟨rfl, rfl⟩
        go_wp2_with fail
        refine (CI.out _).mono ?_;rintro e w11 ⟨rfl, rfl⟩;clear CO CA
        go_wp2_with fail
        refine (CI.out _).mono ?_;rintro e w12 ⟨rfl, rfl⟩;obtain ⟨w9, rfl⟩ : ∃ x : World, x = w12 := ⟨_, rfl⟩;clear CI;have b9 := HB.out.upd hu9 (fun f => f);have y0 := b9.cell 0;have y1 := b9.cell 1;have y2 := b9.cell 2;have y3 := b9.cell 3;have y4 := b9.cell 4;have yf := b9.frozen;have HB9 := Lib.hid b9;clear b9
        go_wp2_with fail
        rw [set5_eq];have us := set5_upd w9 w.heap.size;refine bodyPost_ret (results_cell_row_tmp rfl _ _ w.heap.size 40 _ (0, 0) _ rfl (set5_blk HB9.out _ _ _ _ _) Tryz.underlying40 rfl (by kernel_rfl)) rfl ?_
        refine ⟨_, true, x, rfl, rfl, (HR.out.non hu9).upd (us _ _ _ _ _) (fun j _ e => ?_), rfl, Keeps.refl, ((HUU.out.then_non hu9).trans (us _ _ _ _ _) (fun j hj e => by omega)).mono (fun _ _ f => f.elim), (fun _ => ⟨psOf x, HS.out, rfl, rfl, rfl⟩), (fun q => by cases q)⟩
        subst e;have hv := H.out.v.lt (k := w.heap.size);have hm := H.out.m.lt (k := w.heap.size);exact ⟨hpw, fun q => Nat.lt_irrefl _ (hv q), fun q => Nat.lt_irrefl _ (hm q)⟩
end Go.Proofs.YtblkgjdhaibhgaaGreat
