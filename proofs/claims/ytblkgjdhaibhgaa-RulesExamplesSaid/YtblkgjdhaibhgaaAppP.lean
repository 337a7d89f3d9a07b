/-
  What the reader's application keeps in memory as it reads the operands. No program in sight but its types.
  What is known of the tokens of a text; what the plain parser reads moves it on. No program in sight.
-/
import Derived.Test.YtblkgjdhaibhgaaTrmC
import Derived.Test.YtblkgjdhaibhgaaKPt
import Derived.Test.YtblkgjdhaibhgaaMild
namespace Go.Proofs.Ytblkgjdhaibhgaa
open Go.RowKit

/-- The five cells of a pattern, stored into a slice. -/
def set5o (w : World) (g o : Nat) (a b c d e : Value) : World := ((((w.setCell ⟨g, o, none⟩ a).setCell ⟨g, o + 1, none⟩ b).setCell ⟨g, o + 2, none⟩ c).setCell ⟨g, o + 3, none⟩ d).setCell ⟨g, o + 4, none⟩ e
theorem set5o_upd (w : World) (g o : Nat) (a b c d e : Value) : Upd (· = g) w (set5o w g o a b c d e) :=
  ((((Upd.refl.setCell (S := (· = g)) (p := ⟨g, o, none⟩) (.inl rfl) _).setCell (p := ⟨g, o + 1, none⟩) (.inl rfl) _).setCell (p := ⟨g, o + 2, none⟩) (.inl rfl) _).setCell (p := ⟨g, o + 3, none⟩) (.inl rfl) _).setCell (p := ⟨g, o + 4, none⟩) (.inl rfl) _
theorem set5o_list (cs : List Value) (z0 z1 z2 z3 z4 a b c d e : Value) : (((((cs ++ [z0, z1, z2, z3, z4]).set cs.length a).set (cs.length + 1) b).set (cs.length + 2) c).set (cs.length + 3) d).set (cs.length + 4) e = cs ++ [a, b, c, d, e] := by
  induction cs with
  | nil => rfl
  | cons x cs _ => simp
theorem Own.set5o {w : World} {t : TypeId} {g n c : Nat} {cs : List Value} {z0 z1 z2 z3 z4 : Value} (h : Own w t 5 (some ⟨g, 0, none⟩) n c (cs ++ [z0, z1, z2, z3, z4])) {o : Nat} (ho : o = cs.length) (a b c' d e : Value) : Own (set5o w g o a b c' d e) t 5 (some ⟨g, 0, none⟩) n c (cs ++ [a, b, c', d, e]) := by
  rcases h.cases with ⟨h0, _⟩ | ⟨g', cur, e1, hb, hn, hm, hs, ht⟩
  · cases h0
  · injection e1 with e1; injection e1 with e1; subst e1; subst ho
    refine Own.mk_ (((((hb.set_ cs.length a).set_ (cs.length + 1) b).set_ (cs.length + 2) c').set_ (cs.length + 3) d).set_ (cs.length + 4) e) hn hm (by simpa using hs) ?_
    rw [← set5o_list cs z0 z1 z2 z3 z4, ← ht]
    simp only [Array.toList_setIfInBounds, List.take_set]
theorem Own.cell5 {w : World} {t : TypeId} {g n c : Nat} {cs zs : List Value} (h : Own w t 5 (some ⟨g, 0, none⟩) n c (cs ++ zs)) {o i : Nat} (ho : o = cs.length) (hi : i < zs.length) : w.cell? ⟨g, o + i, none⟩ = some zs[i] := by
  rcases h.cases with ⟨h0, _⟩ | ⟨g', cur, e1, hb, hn, hm, hs, ht⟩
  · cases h0
  · injection e1 with e1; injection e1 with e1; subst e1; subst ho
    rw [hb.cell]
    have e : (cur.toList.take (n * 5))[cs.length + i]? = some zs[i] := by rw [ht, List.getElem?_append_right (by omega)]; simp
    rw [List.getElem?_take] at e
    split at e
    · simpa using e
    · cases e
theorem Own.frozen5 {w : World} {t : TypeId} {g n c z : Nat} {cs : List Value} (h : Own w t z (some ⟨g, 0, none⟩) n c cs) (i : Nat) : w.frozen? ⟨g, i, none⟩ = false := by
  rcases h.cases with ⟨h0, _⟩ | ⟨g', cur, e1, hb, hn, hm, hs, ht⟩
  · cases h0
  · injection e1 with e1; injection e1 with e1; subst e1
    exact hb.frozen i
theorem RdS.own_ne {w : World} {p : Nat} {A A' : Option Addr} {c n c' : Nat} {L : List Tok} {x : St} {cs : List Value} (h : RdS w p A c L x) (o : Own w 30 5 A' n c' cs) : ∀ k, At A' k → ¬ x.own p k := fun k hk q => by
  rcases q with rfl | q | q
  · exact o.ne_blk h.blk (by decide) hk
  · exact o.ne_type h.v (by decide) hk q
  · exact o.ne_type h.m (by decide) hk q

/-- All but the operands: the reader, the three cells that the call made, what has changed. -/
structure AppS (w0 w : World) (p : Nat) (A : Option Addr) (c : Nat) (L : List Tok) (x y : St) (pc : Array Value) : Prop where
  rd : RdS w p A c L y
  box : Blk w w0.heap.size 53 #[.pointer (some ⟨p, 0, none⟩)]
  res : Blk w (w0.heap.size + 1) 30 (p0 (.mk 0 0 0 0 []))
  pat : Blk w (w0.heap.size + 2) 30 pc
  own : ∀ k, y.own p k → x.own p k ∨ w0.heap.size + 3 ≤ k
  xlt : ∀ k, x.own p k → k < w0.heap.size
  upd : Upd (x.own p) w0 w
section
variable {w0 w w' : World} {p : Nat} {A : Option Addr} {c : Nat} {L : List Tok} {x y y' : St} {pc : Array Value}
theorem AppS.le (h : AppS w0 w p A c L x y pc) : w0.heap.size + 3 ≤ w.heap.size := h.pat.lt
theorem AppS.non (h : AppS w0 w p A c L x y pc) (u : Upd Non w w') : AppS w0 w' p A c L x y pc :=
  ⟨h.rd.non u, h.box.upd u (fun f => f), h.res.upd u (fun f => f), h.pat.upd u (fun f => f), h.own, h.xlt, h.upd.then_non u⟩
/-- A step of the reader. -/
theorem AppS.call (h : AppS w0 w p A c L x y pc) (hr : RdS w' p A c L y') (ho : ∀ k, y'.own p k → y.own p k ∨ w.heap.size ≤ k) (u : Upd (y.own p) w w') : AppS w0 w' p A c L x y' pc := by
  have hl := h.le
  have hn : ∀ k, w0.heap.size ≤ k → k < w0.heap.size + 3 → ¬ y.own p k := fun k h1 h2 q => by
    rcases h.own k q with r | r
    · have := h.xlt k r; omega
    · omega
  refine ⟨hr, h.box.upd u (hn _ (by omega) (by omega)), h.res.upd u (hn _ (by omega) (by omega)), h.pat.upd u (hn _ (by omega) (by omega)), fun k q => ?_, h.xlt, h.upd.trans u (fun k hk q => ?_)⟩
  · rcases ho k q with r | r
    · exact h.own k r
    · exact .inr (by omega)
  · rcases h.own k q with r | r
    · exact r
    · omega
/-- A change far from the reader. -/
theorem AppS.far {S : Nat → Prop} (h : AppS w0 w p A c L x y pc) (u : Upd S w w') (hS : ∀ k, S k → w0.heap.size + 3 ≤ k) (hy : ∀ k, S k → ¬ y.own p k) (hp : p < w0.heap.size) : AppS w0 w' p A c L x y pc :=
  ⟨h.rd.upd u (fun k _ q => ⟨by have := hS k q; omega, fun r => hy k q (.inr (.inl r)), fun r => hy k q (.inr (.inr r))⟩), h.box.upd u (fun q => by have := hS _ q; omega), h.res.upd u (fun q => by have := hS _ q; omega), h.pat.upd u (fun q => by have := hS _ q; omega), h.own, h.xlt, h.upd.trans u (fun k hk q => by have := hS k q; omega)⟩
/-- The pattern's own cells. -/
theorem AppS.setPat {pc' : Array Value} (h : AppS w0 w p A c L x y pc) (u : Upd (· = w0.heap.size + 2) w w') (hb : Blk w' (w0.heap.size + 2) 30 pc') : AppS w0 w' p A c L x y pc' := by
  have hn : ¬ y.own p (w0.heap.size + 2) := fun q => by
    rcases h.own _ q with r | r
    · have := h.xlt _ r; omega
    · omega
  refine ⟨h.rd.upd u (fun k _ e => ?_), h.box.upd u (by omega), h.res.upd u (by omega), hb, h.own, h.xlt, h.upd.trans u (fun k hk e => by omega)⟩
  subst e
  have := h.xlt p (.inl rfl)
  exact ⟨by omega, fun r => hn (.inr (.inl r)), fun r => hn (.inr (.inr r))⟩
end
def zs5 : List Value := [.int .i64 0, .int .i64 0, .int .i64 0, .int .i64 0, .slice none 0 0]
/-- The operands read so far. -/
def KO (n0 p : Nat) (w : World) (y : St) (A : Option Addr) (n c : Nat) (ks : List Pt) : Prop := PtO w (fun k => n0 ≤ k ∧ ¬ y.own p k) A n c ks ∧ ∀ k, At A k → n0 ≤ k
/-- The operands read so far, and room for one more. -/
def KO2 (n0 p : Nat) (w : World) (y : St) (A : Option Addr) (j c : Nat) (ks : List Pt) : Prop :=
  j = ks.length ∧ (∃ cs, Own w 30 5 A (j + 1) c (cs ++ zs5) ∧ PtCells w (fun k => (n0 ≤ k ∧ ¬ y.own p k) ∧ ¬ At A k) cs ks) ∧ ∀ k, At A k → n0 ≤ k
section
variable {n0 p : Nat} {w w' : World} {A0 : Option Addr} {c0 : Nat} {L : List Tok} {y y' : St} {A : Option Addr} {n j c : Nat} {ks : List Pt} {S : Nat → Prop}
theorem KO.nil : KO n0 p w y none 0 0 [] := ⟨PtO.none_, fun _ h => (At.none_ h).elim⟩
theorem KO.step (h : KO n0 p w y A n c ks) (hr : RdS w p A0 c0 L y) (u : Upd (y.own p) w w') (ho : ∀ k, y'.own p k → y.own p k ∨ w.heap.size ≤ k) : KO n0 p w' y' A n c ks := by
  obtain ⟨h1, h2⟩ := h
  obtain ⟨_, cs, hown, _⟩ := id h1
  have hne := hr.own_ne hown
  refine ⟨?_, h2⟩
  have g1 : PtO w (fun k => (n0 ≤ k ∧ ¬ y.own p k) ∧ k < w.heap.size) A n c ks := h1.mono (fun k hk q => ⟨q, hk⟩)
  exact (g1.upd u hne (fun k _ q => q.1.2)).mono (fun k _ q => ⟨q.1.1, fun r => by rcases ho k r with r | r; exact q.1.2 r; exact Nat.lt_irrefl _ (Nat.lt_of_lt_of_le q.2 r)⟩)
theorem KO.non (h : KO n0 p w y A n c ks) (u : Upd Non w w') : KO n0 p w' y A n c ks := ⟨h.1.upd u (fun _ _ f => f) (fun _ _ _ f => f), h.2⟩
theorem KO2.non (h : KO2 n0 p w y A j c ks) (u : Upd Non w w') : KO2 n0 p w' y A j c ks := by
  obtain ⟨h1, ⟨cs, h2, h3⟩, h4⟩ := h
  exact ⟨h1, ⟨cs, h2.upd u (fun _ _ f => f), h3.mono u (fun _ _ _ f => f) (fun _ _ q => q)⟩, h4⟩
theorem KO2.step (h : KO2 n0 p w y A j c ks) (hr : RdS w p A0 c0 L y) (u : Upd (y.own p) w w') (ho : ∀ k, y'.own p k → y.own p k ∨ w.heap.size ≤ k) : KO2 n0 p w' y' A j c ks := by
  obtain ⟨h1, ⟨cs, h2, h3⟩, h4⟩ := h
  refine ⟨h1, ⟨cs, h2.upd u (hr.own_ne h2), ?_⟩, h4⟩
  exact h3.mono u (fun k _ q => q.1.2) (fun k hk q => ⟨⟨q.1.1, fun r => by rcases ho k r with r | r; exact q.1.2 r; exact Nat.lt_irrefl _ (Nat.lt_of_lt_of_le hk r)⟩, q.2⟩)
theorem KO2.of {cs : List Value} (hn : n = ks.length) (hc : PtCells w (fun k => (n0 ≤ k ∧ ¬ y.own p k) ∧ ¬ At A k) cs ks) (hA : ∀ k, At A k → n0 ≤ k) (hw : n0 ≤ w.heap.size) {A' : Option Addr} {c' : Nat} (ho : Own w' 30 5 A' (n + 1) c' (cs ++ zs5)) (u : Upd (At A) w w') (hat : ∀ k, At A' k → At A k ∨ k = w.heap.size) : KO2 n0 p w' y A' n c' ks := by
  refine ⟨hn, ⟨cs, ho, hc.mono u (fun k _ q => q.2) (fun k hk q => ⟨q.1, fun r => ?_⟩)⟩, fun k hk => ?_⟩
  · rcases hat k r with r | r
    · exact q.2 r
    · omega
  · rcases hat k hk with r | r
    · exact hA k r
    · omega
theorem KO2.fin (h : KO2 n0 p w y A j c ks) {q : Pt} {KA : Option Addr} {kc : Nat} (hq : PtK w (fun k => (n0 ≤ k ∧ ¬ y.own p k) ∧ ¬ At A k) q KA kc) {g : Nat} (hg : A = some ⟨g, 0, none⟩) {o : Nat} (ho : o = j * 5) :
    KO n0 p (set5o w g o (.int .i64 q.v) (.int .i64 q.op) (.int .i64 q.imm) (.int .i64 q.iv) (.slice KA q.kids.length kc)) y A (j + 1) c (ks ++ [q]) := by
  obtain ⟨h1, ⟨cs, h2, h3⟩, h4⟩ := h
  subst hg
  refine ⟨⟨by simp [h1], cs ++ pcells q KA kc, h2.set5o (by rw [ho, h1, h3.1]; omega) _ _ _ _ _, ?_⟩, h4⟩
  exact (h3.snoc hq).mono (set5o_upd _ _ _ _ _ _ _ _) (fun k _ r e => r.2 (At.some_.2 e)) (fun k _ r => r)
theorem KO2.some_ (h : KO2 n0 p w y A j c ks) : ∃ g, A = some ⟨g, 0, none⟩ ∧ (∀ o, o = j * 5 → ∀ i (hi : i < 5), w.cell? ⟨g, o + i, none⟩ = some (zs5[i]'hi)) ∧ (∀ i, w.frozen? ⟨g, i, none⟩ = false) := by
  obtain ⟨h1, ⟨cs, h2, h3⟩, h4⟩ := h
  obtain ⟨g, rfl⟩ := h2.some_ (by omega)
  exact ⟨g, rfl, fun o ho i hi => h2.cell5 (by rw [ho, h1, h3.1]; omega) hi, fun i => h2.frozen5 i⟩
end
/-! The parser's operands, one more at a time -/
theorem kidsF_snoc (g : PS → Except Er (Pt × PS)) : ∀ (n : Nat) (x : PS), kidsF g (n + 1) x = match kidsF g n x with
    | .error e => .error e
    | .ok (l, y) => match g y with | .error e => .error e | .ok (q, z) => .ok (l ++ [q], z)
  | 0, x => by
    simp only [kidsF]
    cases g x with
    | error e => rfl
    | ok v => rfl
  | n + 1, x => by
    rw [kidsF, kidsF]
    cases hg : g x with
    | error e => rfl
    | ok v =>
      obtain ⟨q, y⟩ := v
      dsimp only
      rw [kidsF_snoc g n y]
      cases kidsF g n y with
      | error e => rfl
      | ok v =>
        obtain ⟨l, z⟩ := v
        dsimp only
        cases g z with
        | error e => rfl
        | ok v => rfl
theorem kidsF_err {g : PS → Except Er (Pt × PS)} {n : Nat} {x : PS} {e : Er} (h : kidsF g n x = .error e) : ∀ {m : Nat}, n ≤ m → kidsF g m x = .error e := by
  intro m hm
  induction hm with
  | refl => exact h
  | step _ ih => rw [kidsF_snoc, ih]
theorem kidsF_len {g : PS → Except Er (Pt × PS)} : ∀ {n : Nat} {x y : PS} {l : List Pt}, kidsF g n x = .ok (l, y) → l.length = n
  | 0, x, y, l, h => by simp only [kidsF] at h; injection h with h; injection h with h _; subst h; rfl
  | n + 1, x, y, l, h => by
    rw [kidsF] at h
    split at h
    · cases h
    · rename_i q z hg
      split at h
      · cases h
      · rename_i l2 z2 hk
        injection h with h; injection h with h _; subst h
        simp [kidsF_len hk]
theorem wrdF_err {α : Type} {T : List (Bs × Nat)} {fin : Nat} {f : Bs → PS → Option (α × PS)} {x : PS} {e : Er} (h : wrdF T fin f x = .error e) : e.1 ≠ 0 := by
  rw [wrd_eq] at h
  split at h
  · split at h
    · cases h
    · injection h with h; subst h; show (2 : Int) ≠ 0; decide
  · injection h with h; subst h; show (2 : Int) ≠ 0; decide
theorem kidsF_e0 {g : PS → Except Er (Pt × PS)} (hg : ∀ x e, g x = .error e → e.1 ≠ 0) : ∀ {n : Nat} {x : PS} {e : Er}, kidsF g n x = .error e → e.1 ≠ 0
  | 0, x, e, h => by simp only [kidsF] at h; cases h
  | n + 1, x, e, h => by
    rw [kidsF] at h
    split at h
    · rename_i e' he; injection h with h; subst h; exact hg _ _ he
    · split at h
      · rename_i e' he; injection h with h; subst h; exact kidsF_e0 hg he
      · cases h
theorem appF_err {T : List (Bs × Nat)} {fin : Nat} {left : Bool} {f : Nat} (hg : ∀ x e, termF T fin left f x = .error e → e.1 ≠ 0) {x : PS} {e : Er} (h : appF T fin left f x = .error e) : e.1 ≠ 0 := by
  unfold appF at h
  split at h
  · rename_i e' he; injection h with h; subst h; exact wrdF_err he
  · split at h
    · rename_i e' he; injection h with h; subst h; exact kidsF_e0 hg he
    · split at h
      · rename_i e' he; injection h with h; subst h
        unfold expF at he
        split at he
        · cases he
        · injection he with he; subst he; show (2 : Int) ≠ 0; decide
      · cases h
theorem termF_err {T : List (Bs × Nat)} {fin : Nat} {left : Bool} : ∀ (f : Nat) (x : PS) (e : Er), termF T fin left f x = .error e → e.1 ≠ 0
  | 0, x, e, h => by unfold termF at h; injection h with h; subst h; show (2 : Int) ≠ 0; decide
  | f + 1, x, e, h => by
    rw [termF_succ] at h
    split at h
    · exact appF_err (termF_err f) h
    · exact wrdF_err h
theorem operF_v {left : Bool} {s : Bs} {x y : PS} {q : Pt} (h : operF left s x = some (q, y)) : q.v = 0 := by
  unfold operF at h
  dsimp only at h
  split at h
  · cases h
  · split at h
    · cases h
    · split at h
      · injection h with h; injection h with h _; subst h; rfl
      · split at h
        · injection h with h; injection h with h _; subst h; rfl
        · split at h
          · split at h
            · injection h with h; injection h with h _; subst h; rfl
            · cases h
          · cases h
theorem wrdF_v {T : List (Bs × Nat)} {fin : Nat} {left : Bool} {x y : PS} {q : Pt} (h : wrdF T fin (operF left) x = .ok (q, y)) : q.v = 0 := by
  rw [wrd_eq] at h
  split at h
  · split at h
    · rename_i h2; injection h with h; injection h with h _; subst h; exact operF_v h2
    · cases h
  · cases h
theorem arF_le (op : Int) : (arF op).getD 0 ≤ 3 := by
  unfold arF
  split
  · decide
  · split
    · decide
    · split <;> decide
theorem sizeL_snoc (q : Pt) : ∀ ks : List Pt, Pt.sizeL (ks ++ [q]) = Pt.sizeL ks + q.size
  | [] => by simp [Pt.sizeL]
  | k :: ks => by simp only [List.cons_append, Pt.sizeL, sizeL_snoc q ks]; omega
theorem kids_step {g : PS → Except Er (Pt × PS)} {y0 y y' : St} {j : Nat} {ks : List Pt} {q : Pt} (hs : ResS y0 y (kidsF g j (psOf y0)) (fun v => v = ks)) (h0 : y.why = 0) (hg : ∀ x e, g x = .error e → e.1 ≠ 0)
    (hr : ResS y y' (g (psOf y)) (fun v => v = q ∧ q.size + y.i ≤ y'.i)) (hz : y.why = 0 → Pt.sizeL ks + y0.i ≤ y.i) :
    ResS y0 y' (kidsF g (j + 1) (psOf y0)) (fun v => v = ks ++ [q]) ∧ (y'.why = 0 → Pt.sizeL (ks ++ [q]) + y0.i ≤ y'.i) := by
  have h00 : y0.why = 0 := by
    by_cases h : y0.why = 0
    · exact h
    · exact absurd ((hs.2 h).1 ▸ h0) h
  have h1 := hs.1 h00
  have h2 := hr.1 h0
  have hz := hz h0
  cases hk : kidsF g j (psOf y0) with
  | error e => rw [hk] at h1; exact absurd (h1.1 ▸ h0) (kidsF_e0 hg hk)
  | ok v =>
    obtain ⟨l, ps⟩ := v
    rw [hk] at h1
    obtain ⟨_, rfl, rfl⟩ := h1
    refine ⟨⟨fun _ => ?_, fun h => absurd h00 h⟩, fun hy => ?_⟩
    · rw [kidsF_snoc, hk]
      dsimp only
      cases ht : g (psOf y) with
      | error e => rw [ht] at h2; exact h2
      | ok v =>
        obtain ⟨q2, z⟩ := v
        rw [ht] at h2
        exact ⟨h2.1, h2.2.1, by rw [h2.2.2.1]⟩
    · cases ht : g (psOf y) with
      | error e => rw [ht] at h2; exact absurd (h2.1 ▸ hy) (hg _ _ ht)
      | ok v =>
        rw [ht] at h2
        have h3 : q.size + y.i ≤ y'.i := h2.2.2.2
        rw [sizeL_snoc]; omega
theorem kids_exit {g : PS → Except Er (Pt × PS)} {y0 y : St} {j n : Nat} {ks : List Pt} (hs : ResS y0 y (kidsF g j (psOf y0)) (fun v => v = ks)) (hj : j ≤ n) (hd : (decide (j < n) && (y.why == 0)) = false) : ResS y0 y (kidsF g n (psOf y0)) (fun v => v = ks) := by
  by_cases hlt : j < n
  · have h0 : y.why ≠ 0 := fun h => by rw [h, decide_eq_true hlt] at hd; cases hd
    refine ⟨fun h00 => ?_, hs.2⟩
    have h1 := hs.1 h00
    cases hk : kidsF g j (psOf y0) with
    | error e => rw [hk] at h1; rw [kidsF_err hk hj]; exact h1
    | ok v => rw [hk] at h1; exact absurd h1.1 h0
  · obtain rfl : j = n := by omega
    exact hs
section
variable {L : List Tok} {T : List (Bs × Nat)} {fin : Nat} {y : St} {s : Bs}
theorem exp_own (p k : Nat) : (y.exp L s).own p k ↔ y.own p k := by
  unfold St.exp
  cases y.why == 0 && isT L y.i s
  · exact fail_own _ _ _ _ _
  · exact Iff.rfl
theorem exp_left : (y.exp L s).left = y.left := by
  unfold St.exp
  cases y.why == 0 && isT L y.i s
  · exact fail_left _ _ _
  · rfl
theorem exp_i : y.i ≤ (y.exp L s).i := by
  unfold St.exp
  cases y.why == 0 && isT L y.i s
  · exact Nat.le_of_eq (fail_i _ _ _).symm
  · exact Nat.le_succ _
theorem exp_good (hL : LOk L T fin) (hy : Good T y) : Good T (y.exp L s) := by
  unfold St.exp
  cases hb : y.why == 0 && isT L y.i s with
  | false => exact Good.fail hy.1 (by decide)
  | true =>
    simp only [Bool.and_eq_true, beq_iff_eq] at hb
    rw [hL.tk hy.1, decide_eq_true_eq] at hb
    have hi : y.i < T.length := by
      rcases Nat.lt_or_ge y.i T.length with q | q
      · exact q
      · have := hb.2; unfold tkF at this; rw [List.getElem?_eq_none q] at this; cases this
    exact ⟨hi, fun _ => by have := hy.2 hb.1; exact ⟨Nat.le_succ_of_le this.1, Nat.le_succ_of_le this.2⟩⟩
/-- The state behind 'expect', against the parser's. -/
theorem exp_res (hL : LOk L T fin) (hy : Good T y) (h0 : y.why = 0) : match expF T fin s (psOf y) with | .ok u => (y.exp L s).why = 0 ∧ psOf (y.exp L s) = u | .error e => (y.exp L s).why = e.1 ∧ (y.exp L s).ea = e.2 := by
  unfold St.exp expF
  rw [hL.tk hy.1, h0, show (psOf y).i = y.i from rfl]
  by_cases ht : tkF T y.i = some s
  · rw [if_pos ht, decide_eq_true ht]; exact ⟨rfl, rfl⟩
  · rw [if_neg ht, decide_eq_false ht]
    dsimp only [Bool.and_false, cond_false, BEq.rfl]
    rw [fail_zero h0, hL.pos hy.1]
    exact ⟨rfl, rfl⟩
theorem exp_err (h0 : y.why ≠ 0) : y.exp L s = y := by
  unfold St.exp
  rw [show (y.why == 0) = false by simpa using h0]
  exact fail_why h0
/-- The whole of an application. -/
theorem app_fin (hL : LOk L T fin) {left : Bool} {f n : Nat} {x y0 : St} {q : Pt} {ks : List Pt} (hx : x.why = 0) (hy : Good T y)
    (hr : ResS x y0 (wrdF T fin (operF left) (psOf x)) (fun v => v = q ∧ x.i + 1 ≤ y0.i)) (hn : n = (arF q.op).getD 0)
    (hs : ResS y0 y (kidsF (termF T fin left f) n (psOf y0)) (fun v => v = ks)) (hz : y.why = 0 → Pt.sizeL ks + y0.i ≤ y.i) :
    ResS x (y.exp L [41]) (appF T fin left f (psOf x)) (fun v => v = .mk q.v q.op q.imm q.iv ks ∧ (Pt.mk q.v q.op q.imm q.iv ks).size + x.i ≤ (y.exp L [41]).i) := by
  refine ⟨fun _ => ?_, fun h => absurd hx h⟩
  have h1 := hr.1 hx
  unfold appF
  cases hw : wrdF T fin (operF left) (psOf x) with
  | error e =>
    rw [hw] at h1
    have hne : y0.why ≠ 0 := by rw [h1.1]; exact wrdF_err hw
    have h2 := hs.2 hne
    rw [exp_err (by rw [h2.1]; exact hne)]
    exact ⟨h2.1.trans h1.1, h2.2.trans h1.2⟩
  | ok v =>
    obtain ⟨q', ps⟩ := v
    rw [hw] at h1
    obtain ⟨h00, rfl, h1q, h1i⟩ := h1
    subst h1q
    have h2 := hs.1 h00
    dsimp only
    rw [← hn]
    cases hk : kidsF (termF T fin left f) n (psOf y0) with
    | error e =>
      rw [hk] at h2
      have hne : y.why ≠ 0 := by rw [h2.1]; exact kidsF_e0 (termF_err f) hk
      rw [exp_err hne]
      exact h2
    | ok v =>
      obtain ⟨l, ps⟩ := v
      rw [hk] at h2
      obtain ⟨hy0, rfl, h2l⟩ := h2
      subst h2l
      dsimp only
      have h3 := exp_res (s := [41]) hL hy hy0
      cases he : expF T fin [41] (psOf y) with
      | error e => rw [he] at h3; exact h3
      | ok u =>
        rw [he] at h3
        refine ⟨h3.1, h3.2, by rw [wrdF_v hw], ?_⟩
        have h4 := hz hy0
        have h5 : y.i ≤ (y.exp L [41]).i := exp_i
        rw [Pt.size_eq]
        show 1 + Pt.sizeL l + x.i ≤ _
        omega
end
section
variable {w w' : World} {n0 n1 p : Nat} {y : St} {A A' : Option Addr} {q : Pt} {KA : Option Addr} {kc : Nat}
theorem PtK.past0 (hq : PtK w (fun k => n1 ≤ k ∧ ¬ y.own p k) q KA kc) (hA : ∀ k, At A k → k < n1) (hn : n0 ≤ n1) : PtK w (fun k => (n0 ≤ k ∧ ¬ y.own p k) ∧ ¬ At A k) q KA kc :=
  PtK.mono (fun k _ h => ⟨⟨Nat.le_trans hn h.1, h.2⟩, fun r => Nat.lt_irrefl _ (Nat.lt_of_lt_of_le (hA k r) h.1)⟩) _ _ _ hq
theorem PtK.past (hq : PtK w (fun k => n1 ≤ k ∧ ¬ y.own p k) q KA kc) (hA : ∀ k, At A k → k < n1) (hn : n0 ≤ n1) (u : Upd (At A) w w') (hat : ∀ k, At A' k → At A k ∨ k = w.heap.size) : PtK w' (fun k => (n0 ≤ k ∧ ¬ y.own p k) ∧ ¬ At A' k) q KA kc := by
  have h1 : PtK w (fun k => (n1 ≤ k ∧ ¬ y.own p k) ∧ k < w.heap.size) q KA kc := PtK.mono (fun k hk h => ⟨h, hk⟩) _ _ _ hq
  refine PtK.mono (fun k _ h => ⟨⟨Nat.le_trans hn h.1.1, h.1.2⟩, fun r => ?_⟩) _ _ _ (PtK.upd u (fun k _ h r => Nat.lt_irrefl _ (Nat.lt_of_lt_of_le (hA k r) h.1.1)) _ _ _ h1)
  rcases hat k r with r | r
  · exact Nat.lt_irrefl _ (Nat.lt_of_lt_of_le (hA k r) h.1.1)
  · have := h.2; omega
end
theorem set5o_eq (w : World) (g o : Nat) (a b c d e : Value) : ((((w.setCell ⟨g, o, none⟩ a).setCell ⟨g, o + 1, none⟩ b).setCell ⟨g, o + 2, none⟩ c).setCell ⟨g, o + 3, none⟩ d).setCell ⟨g, o + 4, none⟩ e = set5o w g o a b c d e := rfl
section
variable {n0 p m : Nat} {w w' : World} {y : St} {A : Option Addr} {n j c : Nat} {ks : List Pt}
theorem KO.near (h : KO n0 p w y A n c ks) (u : Upd (· = m) w w') (hm : m < n0) : KO n0 p w' y A n c ks :=
  ⟨h.1.upd u (fun k q e => by have := h.2 k q; omega) (fun k _ q e => by have := q.1; omega), h.2⟩
theorem KO2.near (h : KO2 n0 p w y A j c ks) (u : Upd (· = m) w w') (hm : m < n0) : KO2 n0 p w' y A j c ks := by
  obtain ⟨h1, ⟨cs, h2, h3⟩, h4⟩ := h
  exact ⟨h1, ⟨cs, h2.upd u (fun k q e => by have := h4 k q; omega), h3.mono u (fun k _ q e => by have := q.1.1; omega) (fun _ _ q => q)⟩, h4⟩
end
theorem AppS.kids {w0 w : World} {p : Nat} {A : Option Addr} {c : Nat} {L : List Tok} {x y : St} {a b c' d e : Value} (h : AppS w0 w p A c L x y #[a, b, c', d, e]) (v : Value) : ∃ w9, w.setCell ⟨w0.heap.size + 2, 4, none⟩ v = w9 ∧ Upd (· = w0.heap.size + 2) w w9 ∧ AppS w0 w9 p A c L x y #[a, b, c', d, v] :=
  ⟨_, rfl, updCell _ _ _ _, h.setPat (updCell _ _ _ _) (by simpa using h.pat.set_ 4 v)⟩
end Go.Proofs.Ytblkgjdhaibhgaa

namespace Go.Proofs.Ytblkgjdhaibhgaa
open Go.RowKit

theorem goodT_get : ∀ (L : List Tok) (i : Nat) (h : i < (goodT L).length), L[i]? = some ⟨(goodT L)[i].1, (goodT L)[i].2, false⟩
  | [], i, h => by simp [goodT] at h
  | t :: L, i, h => by
    obtain ⟨s, q, b⟩ := t
    cases b with
    | true => simp [goodT] at h
    | false =>
      cases i with
      | zero => rfl
      | succ i => exact goodT_get L i (by simpa [goodT] using h)
theorem goodT_bad : ∀ (L : List Tok), (∃ t ∈ L, t.bad = true) → (goodT L).length < L.length ∧ ∃ s, L[(goodT L).length]? = some ⟨s, finT L, true⟩
  | [], h => by obtain ⟨_, h, _⟩ := h; cases h
  | t :: L, h => by
    obtain ⟨s, q, b⟩ := t
    cases b with
    | true => exact ⟨Nat.succ_pos _, s, rfl⟩
    | false =>
      have h2 : ∃ t ∈ L, t.bad = true := by
        obtain ⟨u, hu, hb⟩ := h
        rcases List.mem_cons.1 hu with rfl | hu
        · cases hb
        · exact ⟨u, hu, hb⟩
      obtain ⟨h3, z, h4⟩ := goodT_bad L h2
      exact ⟨Nat.succ_lt_succ h3, z, h4⟩
theorem goodT_mem : ∀ {L : List Tok} {x : Bs × Nat}, x ∈ goodT L → (⟨x.1, x.2, false⟩ : Tok) ∈ L
  | [], x, h => by simp [goodT] at h
  | t :: L, x, h => by
    obtain ⟨s, q, b⟩ := t
    cases b with
    | true => simp [goodT] at h
    | false =>
      rcases List.mem_cons.1 (show x ∈ (s, q) :: goodT L from h) with rfl | h
      · exact List.mem_cons_self
      · exact List.mem_cons_of_mem _ (goodT_mem h)
theorem tokL_end : ∀ (f : Nat) (s : Bs) (o : Nat), ∃ t ∈ tokL f s o, t.bad = true
  | 0, s, o => ⟨_, List.mem_singleton.2 rfl, rfl⟩
  | f + 1, [], o => ⟨_, List.mem_singleton.2 rfl, rfl⟩
  | f + 1, c :: r, o => by
    unfold tokL
    split
    · exact tokL_end f _ _
    · split
      · exact tokL_end f _ _
      · split
        · obtain ⟨t, h1, h2⟩ := tokL_end f r (o + 1)
          exact ⟨t, List.mem_cons_of_mem _ h1, h2⟩
        · obtain ⟨t, h1, h2⟩ := tokL_end f ((c :: r).drop (wlen (c :: r))) (o + wlen (c :: r))
          exact ⟨t, List.mem_cons_of_mem _ h1, h2⟩
theorem tokL_s : ∀ (f : Nat) (s : Bs) (o : Nat), ∀ t ∈ tokL f s o, t.bad = false → t.s ≠ [] ∧ t.s.length ≤ s.length
  | 0, s, o, t, h, hb => by rw [tokL, List.mem_singleton] at h; subst h; cases hb
  | f + 1, [], o, t, h, hb => by rw [tokL, List.mem_singleton] at h; subst h; cases hb
  | f + 1, c :: r, o, t, h, hb => by
    unfold tokL at h
    split at h
    · have := tokL_s f _ _ t h hb
      exact ⟨this.1, Nat.le_succ_of_le this.2⟩
    · rename_i h1
      split at h
      · have := tokL_s f _ _ t h hb
        rw [List.length_drop] at this
        exact ⟨this.1, by omega⟩
      · rename_i h2
        split at h
        · rcases List.mem_cons.1 h with rfl | h
          · exact ⟨by simp, by simp⟩
          · have := tokL_s f _ _ t h hb
            exact ⟨this.1, Nat.le_succ_of_le this.2⟩
        · rename_i h3
          rcases List.mem_cons.1 h with rfl | h
          · have hw : 1 ≤ wlen (c :: r) := by
              unfold wlen
              rw [if_pos]
              · omega
              · simp only [Bool.or_eq_true, decide_eq_true_eq, not_or] at h3
                simp only [wordCh, Bool.and_eq_true, decide_eq_true_eq, Bool.not_eq_true']
                have h31 : isPn c = false := by simpa using h3.1.1
                have h22 : isCm (c :: r) = false := by simpa using h2
                exact ⟨⟨by omega, h31⟩, h22⟩
            refine ⟨fun q => ?_, ?_⟩
            · have q2 := congrArg List.length q
              rw [List.length_take] at q2
              simp only [List.length_nil, List.length_cons] at q2
              omega
            · show ((c :: r).take _).length ≤ _
              rw [List.length_take]
              omega
          · have := tokL_s f _ _ t h hb
            rw [List.length_drop] at this
            exact ⟨this.1, by omega⟩
/-- The tokens of a text are in order. -/
theorem lok_toks {s : Bs} (hs : s.length ≤ 20000) (hl : (toksF s).length ≤ s.length + 1) : LOk (toksF s) (goodT (toksF s)) (finT (toksF s)) := by
  obtain ⟨h1, h2⟩ := goodT_bad (toksF s) (tokL_end _ _ _)
  exact ⟨h1, fun i h => goodT_get _ i h, h2, fun t ht => (tokL_s _ _ _ _ (goodT_mem ht) rfl).1, fun t ht => by have := (tokL_s _ _ _ _ (goodT_mem ht) rfl).2; show t.1.length ≤ 20000; have h3 : t.1.length ≤ s.length := this; omega, by omega⟩

/-! The parser moves on -/
section
variable {T : List (Bs × Nat)} {fin : Nat}
theorem wrdF_i {α : Type} {g : Bs → PS → Option (α × PS)} {x y : PS} {a : α} (h : wrdF T fin g x = .ok (a, y)) : y.i = x.i + 1 := by
  rw [wrd_eq] at h
  split at h
  · split at h
    · injection h with h; injection h with _ h; subst h; rfl
    · cases h
  · cases h
theorem expF_i {s : Bs} {x y : PS} (h : expF T fin s x = .ok y) : y.i = x.i + 1 := by
  unfold expF at h
  split at h
  · injection h with h; subst h; rfl
  · cases h
theorem kidsF_i {g : PS → Except Er (Pt × PS)} (hg : ∀ x y q, g x = .ok (q, y) → x.i ≤ y.i) : ∀ {n : Nat} {x y : PS} {l : List Pt}, kidsF g n x = .ok (l, y) → x.i ≤ y.i
  | 0, x, y, l, h => by simp only [kidsF] at h; injection h with h; injection h with _ h; subst h; exact Nat.le_refl _
  | n + 1, x, y, l, h => by
    rw [kidsF] at h
    split at h
    · cases h
    · rename_i q z hq
      split at h
      · cases h
      · rename_i l2 z2 hk
        injection h with h; injection h with _ h; subst h
        exact Nat.le_trans (hg _ _ _ hq) (kidsF_i hg hk)
theorem termF_i {left : Bool} : ∀ (f : Nat) (x y : PS) (q : Pt), termF T fin left f x = .ok (q, y) → x.i ≤ y.i
  | 0, x, y, q, h => by unfold termF at h; cases h
  | f + 1, x, y, q, h => by
    rw [termF_succ] at h
    split at h
    · unfold appF at h
      split at h
      · cases h
      · rename_i q1 y1 h1
        split at h
        · cases h
        · rename_i l z h2
          split at h
          · cases h
          · rename_i u h3
            injection h with h; injection h with _ h; subst h
            have e1 := wrdF_i h1
            have e2 := kidsF_i (termF_i f) h2
            have e3 := expF_i h3
            have e1 : y1.i = x.i + 1 + 1 := e1
            omega
    · have := wrdF_i h
      omega
theorem pcondF_i {x y : PS} {c : Cd} (h : pcondF T fin x = .ok (c, y)) : x.i ≤ y.i := by
  unfold pcondF at h
  split at h
  · cases h
  · rename_i k y1 h1
    have e1 := wrdF_i h1
    split at h
    · cases h
    · rename_i a z h2
      have e2 : z.i = y1.i + 1 := by
        split at h2
        · exact wrdF_i h2
        · exact wrdF_i h2
      split at h
      · injection h with h; injection h with _ h; subst h; omega
      · split at h
        · split at h
          · cases h
          · rename_i n u h3
            have e3 := wrdF_i h3
            injection h with h; injection h with _ h; subst h; omega
        · split at h
          · split at h
            · cases h
            · rename_i n u h3
              have e3 := wrdF_i h3
              injection h with h; injection h with _ h; subst h; omega
          · split at h
            · cases h
            · rename_i n u h3
              have e3 := wrdF_i h3
              injection h with h; injection h with _ h; subst h; omega
theorem condsF_i : ∀ (f : Nat) (x y : PS) (l : List Cd), condsF T fin f x = .ok (l, y) → x.i ≤ y.i
  | 0, x, y, l, h => by unfold condsF at h; injection h with h; injection h with _ h; subst h; exact Nat.le_refl _
  | f + 1, x, y, l, h => by
    unfold condsF at h
    split at h
    · split at h
      · cases h
      · rename_i c y1 h1
        have e1 : x.i + 1 ≤ y1.i := pcondF_i h1
        split at h
        · cases h
        · rename_i l2 z h2
          have e2 := condsF_i f _ _ _ h2
          injection h with h; injection h with _ h; subst h; omega
    · injection h with h; injection h with _ h; subst h; exact Nat.le_refl _
theorem ifF_i {f : Nat} {x y : PS} {l : List Cd} (h : ifF T fin f x = .ok (l, y)) : x.i ≤ y.i := by
  unfold ifF at h
  split at h
  · split at h
    · cases h
    · rename_i c y1 h1
      have e1 : x.i + 1 ≤ y1.i := pcondF_i h1
      split at h
      · cases h
      · rename_i l2 z h2
        have e2 := condsF_i f _ _ _ h2
        injection h with h; injection h with _ h; subst h; omega
  · injection h with h; injection h with _ h; subst h; exact Nat.le_refl _
theorem ruleF_i {x y : PS} {r : Rl} (h : ruleF T fin x = .ok (r, y)) : x.i + 1 ≤ y.i := by
  unfold ruleF at h
  split at h
  · cases h
  · rename_i s x1 h1
    have e1 : x1.i = x.i + 1 := wrdF_i (x := { x with vs := [], ms := [] }) h1
    split at h
    · cases h
    · rename_i x2 h2
      have e2 := expF_i h2
      split at h
      · cases h
      · rename_i l x3 h3
        have e3 := termF_i _ _ _ _ h3
        split at h
        · cases h
        · rename_i x4 h4
          have e4 := expF_i h4
          split at h
          · cases h
          · rename_i r5 x5 h5
            have e5 := termF_i _ _ _ _ h5
            split at h
            · cases h
            · rename_i cs x6 h6
              have e6 := ifF_i h6
              split at h
              · cases h
              · rename_i x7 h7
                have e7 := expF_i h7
                injection h with h; injection h with _ h; subst h; omega
theorem itemF_i {ax : Bs → Option Rl} {x y : PS} {v : Option Rl × Nat} (h : itemF T fin ax x = .ok (v, y)) : x.i + 1 ≤ y.i := by
  unfold itemF at h
  split at h
  · split at h
    · cases h
    · rename_i s y1 h1
      have e1 : y1.i = x.i + 1 + 1 := wrdF_i (x := { x with i := x.i + 1 }) h1
      split at h
      · cases h
      · rename_i z h2
        have e2 := expF_i h2
        injection h with h; injection h with _ h; subst h; omega
  · split at h
    · cases h
    · rename_i y1 h1
      have e1 := expF_i h1
      split at h
      · cases h
      · rename_i r z h2
        have e2 := ruleF_i h2
        injection h with h; injection h with _ h; subst h; omega
theorem expF_err {s : Bs} {x : PS} {e : Er} (h : expF T fin s x = .error e) : e.1 ≠ 0 := by
  unfold expF at h
  split at h
  · cases h
  · injection h with h; subst h; show (2 : Int) ≠ 0; decide
end
end Go.Proofs.Ytblkgjdhaibhgaa
