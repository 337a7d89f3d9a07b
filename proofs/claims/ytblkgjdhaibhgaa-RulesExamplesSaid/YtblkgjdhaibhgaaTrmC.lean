/-
  What the reader's term does, given what its application does.
-/
import Derived.Test.YtblkgjdhaibhgaaResP
namespace Go.Proofs.Ytblkgjdhaibhgaa
open Go.RowKit

theorem wrd_eq {α : Type} (T : List (Bs × Nat)) (fin : Nat) (f : Bs → PS → Option (α × PS)) (x : PS) : wrdF T fin f x = match wkF T x.i with
    | some s => (match f s x with | some (a, y) => .ok (a, { y with i := x.i + 1 }) | none => .error (serr T fin x.i))
    | none => .error (serr T fin x.i) := by
  unfold wrdF wkF
  cases tkF T x.i with
  | none => rfl
  | some s =>
    dsimp only
    generalize isPn (s.headD 0) = b
    cases b <;> rfl
/-- What is read behind an opening parenthesis. -/
def appF (T : List (Bs × Nat)) (fin : Nat) (left : Bool) (f : Nat) (x : PS) : Except Er (Pt × PS) :=
  match wrdF T fin (operF left) x with
  | .error e => .error e
  | .ok (p, y) => match kidsF (termF T fin left f) ((arF p.op).getD 0) y with
    | .error e => .error e
    | .ok (l, z) => match expF T fin [41] z with
      | .error e => .error e
      | .ok u => .ok (.mk 0 p.op p.imm p.iv l, u)
theorem termF_succ (T : List (Bs × Nat)) (fin : Nat) (left : Bool) (f : Nat) (x : PS) : termF T fin left (f + 1) x = if tkF T x.i = some [40] then appF T fin left f { x with i := x.i + 1 } else wrdF T fin (atomF left) x := rfl
/-- What term and application hand back. -/
def TermP (T : List (Bs × Nat)) (w : World) (p : Nat) (A : Option Addr) (c : Nat) (L : List Tok) (x : St) (r : Except Er (Pt × PS)) (e : Ending) (w' : World) : Prop :=
  ∃ (q : Pt) (KA : Option Addr) (kc : Nat) (y : St), e = .returned (pv q KA kc) ∧ PtK w' (fun k => w.heap.size ≤ k ∧ ¬ y.own p k) q KA kc ∧ RdS w' p A c L y ∧ Good T y ∧ y.left = x.left ∧ (∀ k, y.own p k → x.own p k ∨ w.heap.size ≤ k) ∧ Upd (x.own p) w w' ∧ ResS x y r (fun v => v = q ∧ q.size + x.i ≤ y.i)
theorem hcf64 : ∀ (args : Array Value) (w : World), (callFunc 64 args).run Try.prog w = .ok (.enter 64 args) w := fun args w => by
  simp [callFunc, Try.func64, Try.f64]

theorem atom_len {left : Bool} {s : Bs} {x ps : PS} {q : Pt} (h : atomF left s x = some (q, ps)) : ps.vs.length ≤ x.vs.length + 1 ∧ ps.ms.length ≤ x.ms.length + 1 := by
  unfold atomF at h
  split at h
  · injection h with h; injection h with _ h; subst h; exact ⟨Nat.le_succ _, Nat.le_succ _⟩
  · split at h
    · injection h with h; injection h with _ h; subst h; exact ⟨varF_len _ _ _ _, Nat.le_succ _⟩
    · split at h
      · injection h with h; injection h with _ h; subst h; exact ⟨Nat.le_succ _, varF_len _ _ _ _⟩
      · cases h
theorem size_leaf' {q : Pt} (h : q.kids = []) : q.size = 1 := by rw [Pt.size_eq, h]; rfl
set_option maxRecDepth 100000 in
set_option maxHeartbeats 4000000 in
theorem rTerm_c {L : List Tok} {T : List (Bs × Nat)} {fin : Nat} (hL : LOk L T fin) (left : Bool) (f : Nat)
    (HA : ∀ {w : World} {p : Nat} {A : Option Addr} {c : Nat} {x : St}, RdS w p A c L x → Good T x → x.left = left → x.why = 0 → T.length < x.i + f → Calls Try.prog 63 #[.pointer (some ⟨p, 0, none⟩)] w (TermP T w p A c L x (appF T fin left f (psOf x))))
    {w : World} {p : Nat} {A : Option Addr} {c : Nat} {x : St} (h : RdS w p A c L x) (hx : Good T x) (hl : x.left = left) (hf : x.why = 0 → T.length < x.i + (f + 1)) :
    Calls Try.prog 42 #[.pointer (some ⟨p, 0, none⟩)] w (TermP T w p A c L x (termF T fin left (f + 1) (psOf x))) := by
  have hiL : x.i < L.length := by have := hL.lt; have := hx.1; omega
  have hLl := hL.len
  have HS : Hid (termF T fin left (f + 1) (psOf x) = if tkF T x.i = some [40] then appF T fin left f { psOf x with i := x.i + 1 } else wrdF T fin (atomF left) (psOf x)) := rfl
  obtain ⟨r, Hr⟩ := nm (termF T fin left (f + 1) (psOf x))
  rw [Hr.out] at HS ⊢
  obtain ⟨W1, HW1⟩ := nm (w.alloc (.cells #[.pointer (some ⟨p, 0, none⟩)] 53))
  have u1 : Upd Non w W1 := by rw [← HW1.out]; exact Upd.refl.alloc _
  have b1 : Blk W1 w.heap.size 53 #[.pointer (some ⟨p, 0, none⟩)] := by rw [← HW1.out]; exact Blk.new _ _ _
  have s1 : W1.heap.size = w.heap.size + 1 := by rw [← HW1.out]; simp
  obtain ⟨W2, HW2⟩ := nm (W1.alloc (.cells #[.int .i64 0, .int .i64 0, .int .i64 0, .int .i64 0, .slice none 0 0] 30))
  have u2 : Upd Non W1 W2 := by rw [← HW2.out]; exact Upd.refl.alloc _
  have b2 : Blk W2 (w.heap.size + 1) 30 #[.int .i64 0, .int .i64 0, .int .i64 0, .int .i64 0, .slice none 0 0] := by rw [← HW2.out, ← s1]; exact Blk.new _ _ _
  have s2 : W2.heap.size = w.heap.size + 2 := by rw [← HW2.out]; simp [s1]
  have b1 := b1.upd u2 (fun f => f)
  have U2 := u1.then_non u2
  have e1 := HW1.out
  have e2 := HW2.out
  have h2 := h.non U2
  have CI := Lib.hid (rIs_c h2 hiL [40])
  rw [hL.tk hx.1 [40]] at CI
  have d0 := b1.cell 0
  have H := Lib.hid h
  have H2 := Lib.hid h2
  have HX := Lib.hid hx
  have HB1 := Lib.hid b1
  have HB2 := Lib.hid b2
  have HU2 := Lib.hid U2
  have hpw : p < w.heap.size := h.blk.lt
  obtain ⟨z, Hz⟩ := nm (x.why == 0 && decide (tkF T x.i = some [40]))
  rw [Hz.out] at CI
  clear h h2 b1 b2 u1 u2 U2 HW1 HW2 hx
  go_enter Try.func42, Try.ntmps42
  go_wp2_with fail
  refine CI.out.mono ?_
  rintro e w3 ⟨rfl, hu3⟩
  have d3 := cell_upd d0 hu3 (fun f => f)
  have H3 := Lib.hid (H2.out.non hu3)
  have HU3 := Lib.hid (HU2.out.then_non hu3)
  have HB3 := Lib.hid (HB2.out.upd hu3 (fun f => f))
  have HX3 := Lib.hid (HB1.out.upd hu3 (fun f => f))
  have s3 := hu3.size
  clear CI d0 H2 HU2 HB2 HB1 hu3 e1 e2
  cases z with
  | true =>
    have hz := Hz.out
    simp only [Bool.and_eq_true, beq_iff_eq, decide_eq_true_eq] at hz
    have HZ1 : Hid (x.why = 0) := hz.1
    have HR : Hid (r = appF T fin left f { psOf x with i := x.i + 1 }) := by show _ = _; rw [HS.out, if_pos hz.2]
    have hiT : x.i < T.length := by
      rcases Nat.lt_or_ge x.i T.length with q | q
      · exact q
      · have := hz.2; unfold tkF at this; rw [List.getElem?_eq_none q] at this; cases this
    obtain ⟨c0, c1, c2, c3, c4, c5, c6⟩ := H3.out.cells
    have cf := H3.out.blk.frozen
    have hlt5 : x.i < 100000 := by omega
    obtain ⟨i, Hi⟩ := nm x.i
    rw [Hi.out] at c1 hlt5
    obtain ⟨W4, HW4⟩ := nm (w3.setCell ⟨p, 1, none⟩ (.int .i64 ((i : Int) + 1)))
    have u4 : Upd (· = p) w3 W4 := by rw [← HW4.out]; exact updCell _ _ _ _
    have h4 : RdS W4 p A c L { x with i := x.i + 1 } := by
      refine H3.out.set u4 ?_ rfl rfl rfl rfl rfl rfl
      have := H3.out.blk.set_ 1 (.int .i64 ((i : Int) + 1))
      rw [HW4.out] at this
      simpa [rcells, Hi.out] using this
    have e4 := HW4.out
    have d4 := cell_upd d3 u4 (by omega)
    have s4 := u4.size
    have CA := Lib.hid (HA h4 ⟨hiT, fun _ => by have := HX.out.2 hz.1; exact ⟨Nat.le_succ_of_le this.1, Nat.le_succ_of_le this.2⟩⟩ hl hz.1 (by have := hf hz.1; show T.length < x.i + 1 + f; omega))
    have b4 := HB3.out.upd u4 (by omega)
    have HU4 : Hid (Upd (· = p) w W4) := (HU3.out.mono (fun _ _ f => f.elim)).trans u4 (fun _ _ q => q)
    have HB4 := Lib.hid b4
    clear Hz HS hz c0 c2 c3 c4 c5 c6 h4 u4 b4 HA hf
    go_wp2_with fail
    refine CA.out.mono ?_
    rintro e w5 ⟨q, KA, kc, y, rfl, hq, hy, hg, hyl, ho, hu, hres⟩
    have hown : ∀ j, St.own { x with i := i + 1 } p j → j < w.heap.size := fun j hj => H.out.lt (x := x) (by rcases hj with q | q | q; exact .inl q; exact .inr (.inl q); exact .inr (.inr q))
    have b5 := HB4.out.upd hu (fun q => by have := hown _ (by rw [← Hi.out]; exact q); omega)
    have y0 := b5.cell 0
    have y1 := b5.cell 1
    have y2 := b5.cell 2
    have y3 := b5.cell 3
    have y4 := b5.cell 4
    have yf := b5.frozen
    have HB5 := Lib.hid b5
    have HQ := Lib.hid hq
    have HY := Lib.hid hy
    have HG := Lib.hid hg
    have HO := Lib.hid ho
    have HU := Lib.hid hu
    have HRS := Lib.hid hres
    have HYL := Lib.hid hyl
    clear b5 hq hy hg ho hu hres hyl CA d4 c1 cf e4
    unfold pv
    go_wp2_with fail
    rw [set5_eq]
    have us := set5_upd w5 (w.heap.size + 1) (.int .i64 q.v) (.int .i64 q.op) (.int .i64 q.imm) (.int .i64 q.iv) (.slice KA q.kids.length kc)
    refine bodyPost_ret (results_cell_row rfl _ _ (w.heap.size + 1) 30 _ (0, 0) _ rfl (set5_blk HB5.out _ _ _ _ _) Try.underlying30 rfl (by kernel_rfl)) rfl ?_
    have hyg : ∀ j, y.own p j → j < w.heap.size ∨ W4.heap.size ≤ j := fun j hj => (HO.out j hj).imp_left (fun q => hown j (by rw [← Hi.out]; exact q))
    refine ⟨q, KA, kc, y, rfl, ?_, HY.out.upd us (fun j _ e => ?_), HG.out, HYL.out, fun j hj => ?_, ?_, ?_⟩
    · exact PtK.mono (fun k _ hk => ⟨by omega, hk.2⟩) _ _ _ (PtK.upd us (fun k _ hk e => by omega) _ _ _ HQ.out)
    · subst e
      exact ⟨by omega, fun q => by rcases hyg _ (.inr (.inl q)) with r | r <;> omega, fun q => by rcases hyg _ (.inr (.inr q)) with r | r <;> omega⟩
    · rcases HO.out j hj with q | q
      · exact .inl (by rcases q with q | q | q; exact .inl q; exact .inr (.inl q); exact .inr (.inr q))
      · exact .inr (by omega)
    · exact ((HU4.out.mono (fun _ _ q => .inl q)).trans HU.out (fun j _ q => by rcases q with q | q | q; exact .inl q; exact .inr (.inl q); exact .inr (.inr q))).trans us (fun j hj e => by omega)
    · rw [HR.out]
      refine ⟨fun h0 => ?_, fun h0 => absurd HZ1.out h0⟩
      have h3 := HRS.out.1 h0
      have e : psOf { x with i := x.i + 1 } = { psOf x with i := x.i + 1 } := rfl
      rw [e] at h3
      cases hc : appF T fin left f { psOf x with i := x.i + 1 } with
      | error e => rw [hc] at h3; exact h3
      | ok v => rw [hc] at h3; exact ⟨h3.1, h3.2.1, h3.2.2.1, by have := h3.2.2.2; show q.size + x.i ≤ y.i; have h5 : q.size + (x.i + 1) ≤ y.i := this; omega⟩
  | false =>
    have HR : Hid (x.why = 0 → r = wrdF T fin (atomF left) (psOf x)) := fun h0 => by
      rw [HS.out, if_neg]
      intro q
      have hz := Hz.out
      rw [h0, decide_eq_true q] at hz
      cases hz
    obtain ⟨W4, HW4⟩ := nm (w3.alloc (.cells #[.int .i64 0, .int .i64 0, .int .i64 0, .int .i64 0, .slice none 0 0] 30))
    have u4 : Upd Non w3 W4 := by rw [← HW4.out]; exact Upd.refl.alloc _
    have g4 : Blk W4 w3.heap.size 30 (p0 (.mk 0 0 0 0 [])) := by rw [← HW4.out]; exact Blk.new _ _ _
    have s4 : W4.heap.size = w3.heap.size + 1 := by rw [← HW4.out]; simp
    have e4 := HW4.out
    have H4 := Lib.hid (H3.out.non u4)
    have HX4 := Lib.hid (HX3.out.upd u4 (fun f => f))
    have HB4 := Lib.hid (HB3.out.upd u4 (fun f => f))
    have HG4 := Lib.hid g4
    have HU4 := Lib.hid (HU3.out.then_non u4)
    have d4 := cell_upd d3 u4 (fun f => f)
    have hown : ∀ j, x.own p j → j < w.heap.size := fun j hj => H.out.lt hj
    have hwn : x.why = 0 → x.vs.length ≤ 100000 ∧ x.ms.length ≤ 100000 := fun h0 => by have := HX.out.2 h0; omega
    have CW := Lib.hid (rWord_c H4.out hiL hLl (hL.ne' hiL HX.out.1) 64 #[.pointer (some ⟨w3.heap.size, 0, none⟩), .pointer (some ⟨w.heap.size, 0, none⟩)] hcf64
      (fun bb x2 w1 w2 => ∃ q, q.kids = [] ∧ Blk w2 w3.heap.size 30 (p0 q) ∧ (∀ k, x2.own p k → x.own p k ∨ w1.heap.size ≤ k) ∧ x2.left = x.left ∧ Upd (fun k => x.own p k ∨ k = w3.heap.size) w1 w2 ∧ (bb = true → ∃ ps, atomF left L[x.i].s (psOf x) = some (q, ps) ∧ ps.i = x.i ∧ x2.vs = ps.vs ∧ x2.ms = ps.ms) ∧ (bb = false → atomF left L[x.i].s (psOf x) = none))
      (fun hok w1 u01 => by
        rw [hL.word HX.out.1, Bool.and_eq_true, beq_iff_eq] at hok
        obtain ⟨sw, hsw⟩ := Option.isSome_iff_exists.1 hok.2
        obtain ⟨f1, f2, f3, f4, f5, f6, f7⟩ := hL.at_ hiL hsw
        have hb := hwn hok.1
        refine (rTerm1_c (H4.out.non u01) hb.2 hb.1 L[x.i].s (by rw [f1]; omega) (.mk 0 0 0 0 []) (HG4.out.upd u01 (fun f => f)) (HX4.out.upd u01 (fun f => f)) (fun q => by have := hown _ q; omega) (fun q => by have := hown _ q; omega) (by omega)).mono ?_
        rintro e w2 ⟨q, b, y, rfl, k1, k2, k3, k4, k5, k6, k7⟩
        rw [hl] at k6 k7
        exact ⟨b, y, rfl, k3, k4.i, k4.why.trans hok.1, k5.mono (fun k _ r => by rcases r with r | r; have := hown _ r; omega; omega), k4.own, q, k1, k2, k4.own, k4.left, k5, k6, k7⟩))
    clear Hz HS HA hf g4 u4 d3 H3 HU3 HB3 HX3
    go_wp2_with fail
    refine CW.out.mono ?_
    rintro e w5 hwd
    have HWD := Lib.hid hwd
    clear hwd CW
    obtain ⟨q, y, ev, hq5, hqk, hy5, hgy, hyl, hyo, hu5, hrs⟩ : ∃ (q : Pt) (y : St), (∃ v, e = .returned v) ∧ Blk w5 w3.heap.size 30 (p0 q) ∧ q.kids = [] ∧ RdS w5 p A c L y ∧ Good T y ∧ y.left = x.left ∧ (∀ k, y.own p k → x.own p k ∨ W4.heap.size ≤ k) ∧ Upd (fun k => x.own p k ∨ k = w3.heap.size ∨ k = W4.heap.size) W4 w5 ∧ ResS x y r (fun v => v = q ∧ q.size + x.i ≤ y.i) := by
      have hpos := hL.pos HX.out.1
      rcases HWD.out with ⟨hok, bb, x2, w1, w2, u01, ⟨q, hqk, hqb, hqo, hql, hqu, ht, hff⟩, hi2, hw2, _, u2, rfl, hR⟩ | ⟨hok, rfl, hR, hu⟩
      · rw [hL.word HX.out.1, Bool.and_eq_true, beq_iff_eq] at hok
        obtain ⟨sw, hsw⟩ := Option.isSome_iff_exists.1 hok.2
        obtain ⟨f1, f2, f3, f4, f5, f6, f7⟩ := hL.at_ hiL hsw
        rw [f1] at ht hff
        have hwr := HR.out hok.1
        rw [wrd_eq, show (psOf x).i = x.i from rfl, hsw] at hwr
        dsimp only at hwr
        have hqb5 : Blk w5 w3.heap.size 30 (p0 q) := hqb.upd u2 (by omega)
        have hu5 : Upd (fun k => x.own p k ∨ k = w3.heap.size ∨ k = W4.heap.size) W4 w5 := (u01.mono (fun _ _ f => f.elim)).trans ((hqu.mono (T := fun k => x.own p k ∨ k = w3.heap.size ∨ k = W4.heap.size) (fun _ _ h => by rcases h with h | h; exact .inl h; exact .inr (.inl h))).trans u2 (fun _ _ h => by rcases h with h | h; exact .inl (.inl h); exact .inr (.inr h))) (fun _ _ h => h)
        have ho5 : ∀ k, x2.own p k → x.own p k ∨ W4.heap.size ≤ k := fun k hk => (hqo k hk).imp_right (fun r => Nat.le_trans u01.size r)
        cases bb with
        | true =>
          obtain ⟨ps, ha, hpi, hvs, hms⟩ := ht rfl
          rw [ha] at hwr
          have hal := atom_len ha
          have hgx := HX.out.2 hok.1
          refine ⟨q, { x2 with i := x.i + 1 }, ⟨_, rfl⟩, hqb5, hqk, hR, ⟨f5, fun _ => ?_⟩, hql, ho5, hu5, fun _ => ?_, fun q => absurd hok.1 q⟩
          · show x2.vs.length ≤ x.i + 1 ∧ x2.ms.length ≤ x.i + 1
            rw [hvs, hms]
            have : (psOf x).vs.length = x.vs.length := rfl
            have : (psOf x).ms.length = x.ms.length := rfl
            omega
          · rw [hwr]
            refine ⟨hw2, ?_, rfl, ?_⟩
            · show (⟨x.i + 1, x2.vs, x2.ms⟩ : PS) = ⟨x.i + 1, ps.vs, ps.ms⟩
              rw [hvs, hms]
            · show q.size + x.i ≤ x.i + 1
              rw [size_leaf' hqk]; omega
        | false =>
          rw [hff rfl] at hwr
          refine ⟨q, x2.fail 2 (posT L x.i), ⟨_, rfl⟩, hqb5, hqk, hR, Good.fail (by rw [hi2]; omega) (by decide), by rw [fail_left]; exact hql, fun k hk => ho5 k ((fail_own _ _ _ _ _).1 hk), hu5, fun _ => ?_, fun q => absurd hok.1 q⟩
          rw [hwr, fail_zero hw2, hpos]
          exact ⟨rfl, rfl⟩
      · refine ⟨.mk 0 0 0 0 [], x.fail 2 (posT L x.i), ⟨_, rfl⟩, HG4.out.upd hu (by omega), rfl, hR, Good.fail HX.out.1 (by decide), fail_left _ _ _, fun k hk => .inl ((fail_own _ _ _ _ _).1 hk), hu.mono (fun _ _ h => .inl (.inl h)), fun h0 => ?_, fun h0 => by rw [fail_why h0]; exact ⟨rfl, rfl⟩⟩
        rw [hL.word HX.out.1, h0] at hok
        have hwr := HR.out h0
        rw [wrd_eq, show (psOf x).i = x.i from rfl] at hwr
        cases hk : wkF T x.i with
        | none =>
          rw [hk] at hwr
          rw [hwr, fail_zero h0, hpos]
          exact ⟨rfl, rfl⟩
        | some sw => rw [hk] at hok; cases hok
    obtain ⟨v, rfl⟩ := ev
    clear HWD
    have b5 := HB4.out.upd hu5 (fun r => by
      rcases r with r | r | r
      · have := hown _ r; omega
      · omega
      · omega)
    have y0 := b5.cell 0
    have y1 := b5.cell 1
    have y2 := b5.cell 2
    have y3 := b5.cell 3
    have y4 := b5.cell 4
    have yf := b5.frozen
    unfold p0 at hq5
    have z0 := hq5.cell 0
    have z1 := hq5.cell 1
    have z2 := hq5.cell 2
    have z3 := hq5.cell 3
    have z4 := hq5.cell 4
    have HB5 := Lib.hid b5
    have HY := Lib.hid hy5
    have HG := Lib.hid hgy
    have HO := Lib.hid hyo
    have HU := Lib.hid hu5
    have HRS := Lib.hid hrs
    have HYL := Lib.hid hyl
    have HQK := Lib.hid hqk
    clear b5 hq5 hy5 hgy hyo hu5 hrs hyl hqk d4 e4 HR hwn
    go_wp2_with fail
    rw [set5_eq]
    have us := set5_upd w5 (w.heap.size + 1) (.int .i64 q.v) (.int .i64 q.op) (.int .i64 q.imm) (.int .i64 q.iv) (.slice none 0 0)
    refine bodyPost_ret (results_cell_row rfl _ _ (w.heap.size + 1) 30 _ (0, 0) _ rfl (set5_blk HB5.out _ _ _ _ _) Try.underlying30 rfl (by kernel_rfl)) rfl ?_
    have hyg : ∀ j, y.own p j → j < w.heap.size ∨ W4.heap.size ≤ j := fun j hj => (HO.out j hj).imp_left (hown j)
    refine ⟨q, none, 0, y, ?_, ?_, HY.out.upd us (fun j _ e => ?_), HG.out, HYL.out, fun j hj => (HO.out j hj).imp_right (fun r => by omega), ?_, HRS.out⟩
    · unfold pv
      rw [HQK.out]; rfl
    · rw [PtK.iff, HQK.out]; exact ⟨Nat.le_refl _, .inl rfl⟩
    · subst e
      exact ⟨by omega, fun q => by rcases hyg _ (.inr (.inl q)) with r | r <;> omega, fun q => by rcases hyg _ (.inr (.inr q)) with r | r <;> omega⟩
    · exact ((HU4.out.mono (fun _ _ f => f.elim)).trans HU.out (fun j hj r => by
        rcases r with r | r | r
        · exact r
        · have := HU4.out.size; omega
        · have := HU4.out.size; omega)).trans us (fun j hj e => by omega)
end Go.Proofs.Ytblkgjdhaibhgaa
