/-
  Parse: its list of rules in memory, its names, its loop against the plain parser's. No program in sight but its types.
  What Parse keeps in memory as it goes round. No program in sight but its types.
-/
import Derived.Test.YtblkgjdhaibhgaaItmQ
import Derived.Test.YtblkgjdhaibhgaaSMap
import Derived.Test.YtblkgjdhaibhgaaRulV
namespace Go.Proofs.Ytblkgjdhaibhgaa
open Go.RowKit

/-- Rule r lies at offset o of block b. -/
def RlAt (w : World) (b o : Nat) (r : Rl) (a : RlA) : Prop :=
    w.cell? ⟨b, o, none⟩ = some (.string r.name) ∧ w.cell? ⟨b, o + 1, none⟩ = some (.int .i64 r.l.v) ∧ w.cell? ⟨b, o + 2, none⟩ = some (.int .i64 r.l.op) ∧ w.cell? ⟨b, o + 3, none⟩ = some (.int .i64 r.l.imm) ∧ w.cell? ⟨b, o + 4, none⟩ = some (.int .i64 r.l.iv) ∧ w.cell? ⟨b, o + 5, none⟩ = some (.slice a.la r.l.kids.length a.lc) ∧
    w.cell? ⟨b, o + 6, none⟩ = some (.int .i64 r.r.v) ∧ w.cell? ⟨b, o + 7, none⟩ = some (.int .i64 r.r.op) ∧ w.cell? ⟨b, o + 8, none⟩ = some (.int .i64 r.r.imm) ∧ w.cell? ⟨b, o + 9, none⟩ = some (.int .i64 r.r.iv) ∧ w.cell? ⟨b, o + 10, none⟩ = some (.slice a.ra r.r.kids.length a.rc) ∧
    w.cell? ⟨b, o + 11, none⟩ = some (.slice a.ca r.conds.length a.cc) ∧ w.cell? ⟨b, o + 12, none⟩ = some (.int .i64 r.vars) ∧ w.cell? ⟨b, o + 13, none⟩ = some (.int .i64 r.imms)
theorem RlAt.upd {w w' : World} {b o : Nat} {r : Rl} {a : RlA} {S : Nat → Prop} (h : RlAt w b o r a) (u : Upd S w w') (hb : ¬ S b) : RlAt w' b o r a := by
  obtain ⟨c0, c1, c2, c3, c4, c5, c6, c7, c8, c9, c10, c11, c12, c13⟩ := h
  exact ⟨cell_upd c0 u hb, cell_upd c1 u hb, cell_upd c2 u hb, cell_upd c3 u hb, cell_upd c4 u hb, cell_upd c5 u hb, cell_upd c6 u hb, cell_upd c7 u hb, cell_upd c8 u hb, cell_upd c9 u hb, cell_upd c10 u hb, cell_upd c11 u hb, cell_upd c12 u hb, cell_upd c13 u hb⟩
/-- The rules lie at A. -/
def RlsV (w : World) (F : Nat → Prop) (A : Option Addr) (L : List Rl) : Prop :=
  L = [] ∨ ∃ b o, A = some ⟨b, o, none⟩ ∧ F b ∧ ∀ i (h : i < L.length), ∃ a, RlAt w b (o + i * 14) L[i] a ∧ RlK w F L[i] a
theorem RlsV.upd {w w' : World} {F S : Nat → Prop} {A : Option Addr} {L : List Rl} (h : RlsV w F A L) (u : Upd S w w') (d : ∀ k, k < w.heap.size → F k → ¬ S k) : RlsV w' F A L := by
  rcases h with h | ⟨b, o, e, hF, h⟩
  · exact .inl h
  · refine .inr ⟨b, o, e, hF, fun i hi => ?_⟩
    obtain ⟨a, ha, hk⟩ := h i hi
    exact ⟨a, ha.upd u (d b (World.block_lt_of_cell? _ _ ha.1) hF), hk.upd u d⟩
theorem RlsV.at_ {w : World} {F : Nat → Prop} {A : Option Addr} {L : List Rl} (h : RlsV w F A L) {i : Nat} (hi : i < L.length) : ∃ b o a, A = some ⟨b, o, none⟩ ∧ F b ∧ b < w.heap.size ∧ RlAt w b (o + i * 14) L[i] a ∧ RlK w F L[i] a := by
  rcases h with h | ⟨b, o, e, hF, h⟩
  · subst h; simp at hi
  · obtain ⟨a, ha, hk⟩ := h i hi
    exact ⟨b, o, a, e, hF, World.block_lt_of_cell? _ _ ha.1, ha, hk⟩
theorem RlsV.mono {w : World} {F G : Nat → Prop} {A : Option Addr} {L : List Rl} (h : RlsV w F A L) (g : ∀ k, k < w.heap.size → F k → G k) : RlsV w G A L := by
  rcases h with h | ⟨b, o, e, hF, h⟩
  · exact .inl h
  · by_cases hn : L = []
    · exact .inl hn
    · obtain ⟨a, ha, _⟩ := h 0 (List.length_pos_iff.2 hn)
      refine .inr ⟨b, o, e, g b (World.block_lt_of_cell? _ _ ha.1) hF, fun i hi => ?_⟩
      obtain ⟨a, ha, hk⟩ := h i hi
      exact ⟨a, ha, hk.mono g⟩
theorem T_rules : SlT Try.prog 22 33 14 168 := by
  obtain ⟨i, h1, h2, h3, h4⟩ := info_parts (show (Try.prog.info? 33).map (fun i => (i.zero, i.size, i.bytes)) = some (some (.agg #[.string ⟨#[]⟩, .int .i64 0, .int .i64 0, .int .i64 0, .int .i64 0, .slice none 0 0, .int .i64 0, .int .i64 0, .int .i64 0, .int .i64 0, .slice none 0 0, .slice none 0 0, .int .i64 0, .int .i64 0]), 14, 168) from by kernel_rfl)
  exact ⟨Try.underlying22, ⟨i, _, h1, h2, h3, h4, rfl⟩, by omega⟩
section
variable {w w' : World} {F G G' S : Nat → Prop} {A : Option Addr} {L : List Rl} {n c : Nat}
def RsCells (w : World) (K : Nat → Prop) (cs : List Value) (L : List Rl) : Prop :=
  cs.length = 14 * L.length ∧ ∀ i (h : i < L.length), ∃ a, (∀ j, j < 14 → cs[14 * i + j]? = (rlCells L[i] a).toList[j]?) ∧ RlK w K L[i] a
theorem RsCells.nil {K : Nat → Prop} : RsCells w K [] [] := ⟨rfl, fun i h => by simp at h⟩
theorem RsCells.mono {K K' S : Nat → Prop} {cs : List Value} (h : RsCells w K cs L) (u : Upd S w w') (d : ∀ k, k < w.heap.size → K k → ¬ S k) (hK : ∀ k, k < w.heap.size → K k → K' k) : RsCells w' K' cs L := by
  refine ⟨h.1, fun i hi => ?_⟩
  obtain ⟨a, h1, h5⟩ := h.2 i hi
  refine ⟨a, h1, ?_⟩
  have h6 : RlK w (fun k => K' k ∧ K k) L[i] a := h5.mono (fun k hk hK0 => ⟨hK k hk hK0, hK0⟩)
  exact (h6.upd u (fun k hk hk' => d k hk hk'.2)).mono (fun _ _ h => h.1)
theorem RsCells.snoc {K : Nat → Prop} {cs : List Value} (h : RsCells w K cs L) {r : Rl} {a : RlA} (hk : RlK w K r a) :
    RsCells w K (cs ++ (rlCells r a).toList) (L ++ [r]) := by
  refine ⟨by simp [h.1, rlCells]; omega, fun i hi => ?_⟩
  have hl := h.1
  by_cases hlt : i < L.length
  · obtain ⟨a, h1, h5⟩ := h.2 i hlt
    refine ⟨a, fun j hj => ?_, ?_⟩
    · rw [List.getElem?_append_left (by omega), List.getElem_append_left hlt]; exact h1 j hj
    · rw [List.getElem_append_left hlt]; exact h5
  · have he : i = L.length := by simp at hi; omega
    subst he
    refine ⟨a, fun j hj => ?_, ?_⟩
    · rw [List.getElem?_append_right (by omega), hl]; simp
    · simpa using hk
/-- Rules in a slice that the call owns; what they hold lies in blocks of G, elsewhere. -/
def RlO (w : World) (G : Nat → Prop) (A : Option Addr) (n c : Nat) (L : List Rl) : Prop :=
  n = L.length ∧ ∃ cs, Own w 33 14 A n c cs ∧ RsCells w (fun k => G k ∧ ¬ At A k) cs L
theorem RlO.none_ : RlO w G none 0 0 [] := ⟨rfl, [], Own.none_, RsCells.nil⟩
theorem RlO.upd (h : RlO w G A n c L) (u : Upd S w w') (dA : ∀ k, At A k → ¬ S k) (dG : ∀ k, k < w.heap.size → G k → ¬ S k) : RlO w' G A n c L := by
  obtain ⟨h1, cs, h2, h3⟩ := h
  exact ⟨h1, cs, h2.upd u dA, h3.mono u (fun k hk hg => dG k hk hg.1) (fun _ _ h => h)⟩
theorem RlO.mono (h : RlO w G A n c L) (hG : ∀ k, k < w.heap.size → G k → G' k) : RlO w G' A n c L := by
  obtain ⟨h1, cs, h2, h3⟩ := h
  exact ⟨h1, cs, h2, h3.mono (Upd.refl (S := Non)) (fun _ _ _ f => f) (fun k hk hg => ⟨hG k hk hg.1, hg.2⟩)⟩
theorem RlO.le (h : RlO w G A n c L) : n ≤ c := by obtain ⟨_, _, h2, _⟩ := h; exact h2.le
theorem RlO.lt (h : RlO w G A n c L) {k : Nat} (hk : At A k) : k < w.heap.size := by obtain ⟨_, _, h2, _⟩ := h; exact h2.lt hk
theorem RlO.view (h : RlO w G A n c L) (hA : ∀ k, At A k → F k) (hG : ∀ k, k < w.heap.size → G k → F k) : RlsV w F A L := by
  obtain ⟨rfl, cs, h2, h3⟩ := h
  rcases h2.cases with ⟨_, h0, _, _⟩ | ⟨g, cur, rfl, hb, _, _, _, ht⟩
  · exact .inl (List.eq_nil_of_length_eq_zero h0)
  · refine .inr ⟨g, 0, rfl, hA g (At.some_.2 rfl), fun i hi => ?_⟩
    have hl := h3.1
    obtain ⟨a, c1, c5⟩ := h3.2 i hi
    have hcell : ∀ j u, cs[j]? = some u → w.cell? ⟨g, j, none⟩ = some u := by
      intro j u hj
      rw [hb.cell]
      rw [← ht] at hj
      rw [List.getElem?_take] at hj
      split at hj
      · simpa using hj
      · cases hj
    have e : 0 + i * 14 = 14 * i := by omega
    refine ⟨a, ?_, c5.mono (fun k hk hg => hG k hk hg.1)⟩
    rw [e]
    exact ⟨hcell _ _ (c1 0 (by omega)), hcell _ _ (c1 1 (by omega)), hcell _ _ (c1 2 (by omega)), hcell _ _ (c1 3 (by omega)), hcell _ _ (c1 4 (by omega)), hcell _ _ (c1 5 (by omega)), hcell _ _ (c1 6 (by omega)), hcell _ _ (c1 7 (by omega)), hcell _ _ (c1 8 (by omega)), hcell _ _ (c1 9 (by omega)), hcell _ _ (c1 10 (by omega)), hcell _ _ (c1 11 (by omega)), hcell _ _ (c1 12 (by omega)), hcell _ _ (c1 13 (by omega))⟩
/-- One rule more. -/
theorem RlO.snoc {cs : List Value} (hn : n = L.length) (hc : RsCells w (fun k => G k ∧ ¬ At A k) cs L) {r : Rl} {a : RlA} (hk : RlK w (fun k => G k ∧ ¬ At A k) r a)
    {A' : Option Addr} {c' : Nat} (ho : Own w' 33 14 A' (n + 1) c' (cs ++ (rlCells r a).toList)) (hu : Upd (At A) w w') (hat : ∀ k, At A' k → At A k ∨ k = w.heap.size) (hG : ∀ k, k < w.heap.size → G k → G' k) :
    RlO w' G' A' (n + 1) c' (L ++ [r]) := by
  refine ⟨by simp [hn], _, ho, ?_⟩
  refine (hc.snoc hk).mono hu (fun k _ hg => hg.2) (fun k hk hg => ⟨hG k hk hg.1, fun hA => ?_⟩)
  rcases hat k hA with h | h
  · exact hg.2 h
  · omega
end
/-- The names seen. -/
def nmV (L : List Rl) (s : ByteArray) : Option Value := if L.any (fun q => decide (q.name = s)) then some (.bool true) else none
theorem nmV_nil : nmV [] = fun _ => none := rfl
theorem nmV_get (L : List Rl) (s : ByteArray) : (nmV L s).getD (.bool false) = .bool (L.any (fun q => decide (q.name = s))) := by
  unfold nmV
  cases L.any (fun q => decide (q.name = s)) <;> rfl
theorem nmV_snoc (L : List Rl) (r : Rl) : (fun x => if x = r.name then some (Value.bool true) else nmV L x) = nmV (L ++ [r]) := by
  funext x
  unfold nmV
  rw [List.any_append]
  by_cases h : x = r.name
  · rw [if_pos h, if_pos]
    rw [Bool.or_eq_true]
    exact .inr (by simp [h])
  · rw [if_neg h]
    have : [r].any (fun q => decide (q.name = x)) = false := by simpa using fun e => h e.symm
    rw [this, Bool.or_false]

/-! How big a rule is that was read -/
section
variable {T : List (Bs × Nat)} {fin : Nat} {L : List Tok}
theorem atomF_kids {left : Bool} {s : Bs} {x y : PS} {q : Pt} (h : atomF left s x = some (q, y)) : q.kids = [] := by
  unfold atomF at h
  split at h
  · injection h with h; injection h with h _; subst h; rfl
  · split at h
    · injection h with h; injection h with h _; subst h; rfl
    · split at h
      · injection h with h; injection h with h _; subst h; rfl
      · cases h
theorem kidsF_size {g : PS → Except Er (Pt × PS)} (hg : ∀ x y q, g x = .ok (q, y) → q.size + x.i ≤ y.i) : ∀ {n : Nat} {x y : PS} {l : List Pt}, kidsF g n x = .ok (l, y) → Pt.sizeL l + x.i ≤ y.i
  | 0, x, y, l, h => by simp only [kidsF] at h; injection h with h; injection h with h1 h; subst h; subst h1; simp [Pt.sizeL]
  | n + 1, x, y, l, h => by
    rw [kidsF] at h
    split at h
    · cases h
    · rename_i q z hq
      split at h
      · cases h
      · rename_i l2 z2 hk
        injection h with h; injection h with h1 h; subst h; subst h1
        have e1 := hg _ _ _ hq
        have e2 := kidsF_size hg hk
        simp only [Pt.sizeL]
        omega
theorem termF_size {left : Bool} : ∀ (f : Nat) (x y : PS) (q : Pt), termF T fin left f x = .ok (q, y) → q.size + x.i ≤ y.i
  | 0, x, y, q, h => by unfold termF at h; cases h
  | f + 1, x, y, q, h => by
    rw [termF_succ] at h
    split at h
    · unfold appF at h
      split at h
      · cases h
      · rename_i q1 y1 h1
        split at h
        · cases h
        · rename_i l z h2
          split at h
          · cases h
          · rename_i u h3
            injection h with h; injection h with h4 h; subst h; subst h4
            have e1 : y1.i = x.i + 1 + 1 := wrdF_i h1
            have e2 := kidsF_size (termF_size f) h2
            have e3 := expF_i h3
            rw [Pt.size_eq]
            show 1 + Pt.sizeL l + x.i ≤ u.i
            omega
    · have e1 := wrdF_i h
      have hk : q.kids = [] := by
        rw [wrd_eq] at h
        split at h
        · split at h
          · rename_i h2; injection h with h; injection h with h _; subst h; exact atomF_kids h2
          · cases h
        · cases h
      rw [size_leaf' hk]
      omega
theorem condsF_len : ∀ (f : Nat) (x y : PS) (l : List Cd), condsF T fin f x = .ok (l, y) → l.length + x.i ≤ y.i
  | 0, x, y, l, h => by unfold condsF at h; injection h with h; injection h with h1 h; subst h; subst h1; simp
  | f + 1, x, y, l, h => by
    rw [condsF_succ] at h
    split at h
    · split at h
      · cases h
      · rename_i c y1 h1
        have e1 : x.i + 1 ≤ y1.i := pcondF_i h1
        split at h
        · cases h
        · rename_i l2 z h2
          have e2 := condsF_len f _ _ _ h2
          injection h with h; injection h with h3 h; subst h; subst h3
          rw [List.length_cons]
          omega
    · injection h with h; injection h with h1 h; subst h; subst h1; simp
theorem ifF_len {f : Nat} {x y : PS} {l : List Cd} (h : ifF T fin f x = .ok (l, y)) : l.length + x.i ≤ y.i := by
  unfold ifF at h
  split at h
  · split at h
    · cases h
    · rename_i c y1 h1
      have e1 : x.i + 1 ≤ y1.i := pcondF_i h1
      split at h
      · cases h
      · rename_i l2 z h2
        have e2 := condsF_len f _ _ _ h2
        injection h with h; injection h with h3 h; subst h; subst h3
        rw [List.length_cons]
        omega
  · injection h with h; injection h with h1 h; subst h; subst h1; simp
theorem expF_lt {s : Bs} {x y : PS} (h : expF T fin s x = .ok y) : y.i ≤ T.length := by
  have e := expF_i h
  unfold expF at h
  split at h
  · rename_i q; have := tkF_lt q; omega
  · cases h
theorem ruleF_sz (hL : LOk L T fin) {x y : PS} {r : Rl} (h : ruleF T fin x = .ok (r, y)) : RlSz r := by
  have hTl := hL.lt
  have hTn := hL.len
  unfold ruleF at h
  split at h
  · cases h
  · rename_i s x1 h1
    have e1 : x1.i = x.i + 1 := wrdF_i (x := { x with vs := [], ms := [] }) h1
    have hs : s.length ≤ 20000 := by
      unfold anyF at h1
      rw [wrd_eq] at h1
      split at h1
      · rename_i s2 hw
        have hi : ({ x with vs := [], ms := [] } : PS).i < L.length := by
          unfold wkF at hw
          split at hw
          · rename_i q; have := tkF_lt q; omega
          · cases hw
        have := (hL.at_ hi hw).2.2.2.1
        injection h1 with h1; injection h1 with h1 _; subst h1; exact this
      · cases h1
    split at h
    · cases h
    · rename_i x2 h2
      have e2 := expF_i h2
      split at h
      · cases h
      · rename_i l x3 h3
        have e3 := termF_size _ _ _ _ h3
        split at h
        · cases h
        · rename_i x4 h4
          have e4 := expF_i h4
          split at h
          · cases h
          · rename_i r5 x5 h5
            have e5 := termF_size _ _ _ _ h5
            split at h
            · cases h
            · rename_i cs x6 h6
              have e6 := ifF_len h6
              split at h
              · cases h
              · rename_i x7 h7
                have e7 := expF_i h7
                have e8 := expF_lt h7
                injection h with h; injection h with h _; subst h
                refine ⟨?_, ?_, ?_, ?_⟩
                · show l.size ≤ _; omega
                · show r5.size ≤ _; omega
                · show cs.length ≤ _; omega
                · show (ByteArray.mk s.toArray).size ≤ _
                  have : (ByteArray.mk s.toArray).size = s.length := by show s.toArray.size = _; simp
                  omega
theorem itemF_sz (hL : LOk L T fin) {ax : Bs → Option Rl} (hax : ∀ s r, ax s = some r → RlSz r) {x y : PS} {r : Rl} {n : Nat} (h : itemF T fin ax x = .ok ((some r, n), y)) : RlSz r := by
  unfold itemF at h
  split at h
  · split at h
    · cases h
    · rename_i s y1 h1
      split at h
      · cases h
      · rename_i z h2
        injection h with h; injection h with h _; injection h with h _
        exact hax _ _ h
  · split at h
    · cases h
    · rename_i y1 h1
      split at h
      · cases h
      · rename_i r2 z h2
        injection h with h; injection h with h _; injection h with h _; injection h with h; subst h
        exact ruleF_sz hL h2
theorem bindE_err {α β : Type} {r : Except Er α} {g : α → Except Er β} (hr : ∀ e, r = .error e → e.1 ≠ 0) (hg : ∀ v e, g v = .error e → e.1 ≠ 0) {e : Er} (h : bindE r g = .error e) : e.1 ≠ 0 := by
  unfold bindE at h
  cases r with
  | error e2 => injection h with h; subst h; exact hr _ rfl
  | ok v => exact hg _ _ h
theorem ruleF_err {x : PS} {e : Er} (h : ruleF T fin x = .error e) : e.1 ≠ 0 := by
  rw [ruleF_eq] at h
  refine bindE_err (fun e => wrdF_err) (fun v e h => ?_) h
  refine bindE_err (fun e => expF_err) (fun v e h => ?_) h
  refine bindE_err (fun e => termF_err _ _ e) (fun v e h => ?_) h
  refine bindE_err (fun e => expF_err) (fun v e h => ?_) h
  refine bindE_err (fun e => termF_err _ _ e) (fun v e h => ?_) h
  refine bindE_err (fun e => ifF_err) (fun v e h => ?_) h
  exact bindE_err (fun e => expF_err) (fun v e h => by cases h) h
theorem itemF_err {ax : Bs → Option Rl} {x : PS} {e : Er} (h : itemF T fin ax x = .error e) : e.1 ≠ 0 := by
  unfold itemF at h
  split at h
  · split at h
    · rename_i e' he; injection h with h; subst h; exact wrdF_err he
    · split at h
      · rename_i e' he; injection h with h; subst h; exact expF_err he
      · cases h
  · split at h
    · rename_i e' he; injection h with h; subst h; exact expF_err he
    · split at h
      · rename_i e' he; injection h with h; subst h
        exact ruleF_err he
      · cases h
end
/-! The loop -/
/-- Rules Q were read, fu rounds of fuel are left, the reader stands at y: the whole parse, R, goes on from here. -/
def LpR (T : List (Bs × Nat)) (fin : Nat) (ax : Bs → Option Rl) (n : Nat) (R : Except Er (List Rl)) (y : St) (Q : List Rl) (fu : Nat) : Prop :=
  (y.why = 0 → T.length < fu + y.i ∧ Q.length ≤ 160 ∧ loopF T fin ax n fu (psOf y) Q = R) ∧ (y.why ≠ 0 → R = .error (y.why, y.ea))
section
variable {T : List (Bs × Nat)} {fin : Nat} {ax : Bs → Option Rl} {n : Nat} {R : Except Er (List Rl)} {y y' : St} {Q : List Rl} {fu : Nat}
theorem LpR.exit (h : LpR T fin ax n R y Q fu) (hg : y.i ≤ T.length) (hD : (y.why == 0 && decide (offF T fin y.i < n)) = false) : (y.why = 0 → R = .ok Q) ∧ (y.why ≠ 0 → R = .error (y.why, y.ea)) := by
  refine ⟨fun h0 => ?_, h.2⟩
  obtain ⟨h1, _, h2⟩ := h.1 h0
  have hd : ¬ offF T fin y.i < n := by simpa [h0] using hD
  match fu with
  | 0 => omega
  | f + 1 =>
    unfold loopF at h2
    rw [show (psOf y).i = y.i from rfl, if_neg hd] at h2
    exact h2.symm
/-- What a round's item and its tests come to. -/
def RndR (T : List (Bs × Nat)) (fin : Nat) (ax : Bs → Option Rl) (n : Nat) (R : Except Er (List Rl)) (y : St) (Q : List Rl) (fu : Nat) (rl : Rl) (tp : Nat) (b : Bool) : Prop :=
  (y.why ≠ 0 → R = .error (y.why, y.ea)) ∧ (y.why = 0 → Q.length ≤ 160 ∧ (b = false → R = .error (3, tp)) ∧ (b = true → RlSz rl ∧ (implF rl = false → R = .error (1, tp)) ∧ (implF rl = true →
    (Q.any (fun q => decide (q.name = rl.name)) = true → R = .error (4, tp)) ∧ (Q.any (fun q => decide (q.name = rl.name)) = false → (Q.length = 160 → R = .error (6, tp)) ∧ (Q.length ≠ 160 → LpR T fin ax n R y (Q ++ [rl]) fu)))))
theorem LpR.item {L : List Tok} (hL : LOk L T fin) (hax : ∀ s r, ax s = some r → RlSz r) (h : LpR T fin ax n R y Q fu) (hg : y.i ≤ T.length) (h0 : y.why = 0) (hD : offF T fin y.i < n) {rl : Rl} {tp : Nat} {b : Bool}
    (hr : ResS y y' (itemF T fin ax (psOf y)) (fun v => v.2 = tp ∧ (b = true → v.1 = some rl) ∧ (b = false → v.1 = none))) : 0 < fu ∧ RndR T fin ax n R y' Q (fu - 1) rl tp b := by
  obtain ⟨h1, hq, h2⟩ := h.1 h0
  have h3 := hr.1 h0
  match fu with
  | 0 => omega
  | f + 1 =>
    refine ⟨by omega, ?_⟩
    rw [show f + 1 - 1 = f from rfl]
    unfold loopF at h2
    rw [show (psOf y).i = y.i from rfl, if_pos hD] at h2
    cases hi : itemF T fin ax (psOf y) with
    | error e =>
      rw [hi] at h2 h3
      have hn := itemF_err hi
      refine ⟨fun _ => ?_, fun q => absurd (h3.1 ▸ q) hn⟩
      rw [h3.1, h3.2]
      exact h2.symm
    | ok v =>
      obtain ⟨⟨o, pos⟩, s⟩ := v
      rw [hi] at h2 h3
      obtain ⟨k0, rfl, rfl, k3, k4⟩ := h3
      have him := itemF_i hi
      refine ⟨fun q => absurd k0 q, fun _ => ⟨hq, fun hb => ?_, fun hb => ?_⟩⟩
      · have e := k4 hb
        dsimp only at e
        subst e
        exact h2.symm
      · have e := k3 hb
        dsimp only at e
        subst e
        dsimp only at h2
        refine ⟨itemF_sz hL hax hi, fun hv => ?_, fun hv => ⟨fun hm => ?_, fun hm => ⟨fun hl => ?_, fun hl => ?_⟩⟩⟩
        · rw [if_pos hv] at h2; exact h2.symm
        · rw [if_neg (by simp [hv]), if_pos hm] at h2; exact h2.symm
        · rw [if_neg (by simp [hv]), if_neg (by simp [hm]), if_pos hl] at h2; exact h2.symm
        · rw [if_neg (by simp [hv]), if_neg (by simp [hm]), if_neg hl] at h2
          refine ⟨fun _ => ⟨?_, by rw [List.length_append, List.length_singleton]; omega, h2⟩, fun q => absurd k0 q⟩
          have : y.i + 1 ≤ y'.i := him
          omega
/-- An error ends it. -/
theorem RndR.err {k : Int} {tp : Nat} (h : y.why = 0) (hk : k ≠ 0) (hR : R = .error (k, (tp : Int))) {Q' : List Rl} : LpR T fin ax n R (y.fail k tp) Q' fu := by
  rw [fail_zero h]
  exact ⟨fun q => absurd q hk, fun _ => hR⟩
end
end Go.Proofs.Ytblkgjdhaibhgaa

namespace Go.Proofs.Ytblkgjdhaibhgaa
open Go.RowKit

theorem results_tmp_cell {P : Program} {fn : Func} {p u : Tmp} {ty : TypeId} (h : fn.results = #[.tmp u, .cell p ty]) (tmps : Array Value) (w : World) (g : Nat) (t : TypeId) (cs : Array Value) (fr : Nat × Nat) (d : TypeDesc)
    (hp : tmps.getD p undef = .pointer (some ⟨g, 0, none⟩)) (hg : w.heap[g]? = some (.cells cs t fr))
    (hu : P.underlying ty = some d) (hd : (match d with | .struct _ | .array _ _ => true | _ => false) = true) (hi : (P.info? ty).map (·.size) = some cs.size) :
    (results fn tmps).run P w = .ok (.tuple #[tmps.getD u undef, .agg cs]) w := by
  have hp' : tmps[p]?.getD undef = .pointer (some ⟨g, 0, none⟩) := by simpa using hp
  simp [results, h, hp', asAddr, run_loadVar_row w g t ty cs fr d hg hu hd hi, Result.andThen]
theorem zeroBoolP (w : World) : (zeroValue 4).run Try.prog w = .ok (.bool false) w := by
  have h : (Try.prog.info? 4).bind (·.zero) = some (.bool false) := by kernel_rfl
  cases hi : Try.prog.info? 4 with
  | none => rw [hi] at h; cases h
  | some i => rw [hi] at h; simp at h; simp [zeroValue, typeInfo, hi, h]
/-- The two cells of an error, stored. -/
def setE2 (w : World) (g : Nat) (a b : Value) : World := (w.setCell ⟨g, 0, none⟩ a).setCell ⟨g, 1, none⟩ b
theorem setE2_eq (w : World) (g : Nat) (a b : Value) : (w.setCell ⟨g, 0, none⟩ a).setCell ⟨g, 1, none⟩ b = setE2 w g a b := rfl
theorem setE2_blk {w : World} {g : Nat} {t : TypeId} {x0 x1 : Value} (h : Blk w g t #[x0, x1]) (a b : Value) : Blk (setE2 w g a b) g t #[a, b] := by
  unfold setE2
  simpa using (h.set_ 0 a).set_ 1 b
theorem setE2_upd (w : World) (g : Nat) (a b : Value) : Upd (· = g) w (setE2 w g a b) :=
  (updCell w g 0 a).trans (updCell _ g 1 b) (fun _ _ h => h)
def ParseP (r : Except Er (List Rl)) (w : World) (e : Ending) (w' : World) : Prop :=
  Upd Non w w' ∧ ((∃ er, r = .error er ∧ e = .returned (.tuple #[.slice none 0 0, .agg #[.int .i64 er.1, .int .i64 er.2]])) ∨
    (∃ (Q : List Rl) (A : Option Addr) (c : Nat), r = .ok Q ∧ e = .returned (.tuple #[.slice A Q.length c, .agg #[.int .i64 0, .int .i64 0]]) ∧ RlsV w' (fun k => w.heap.size ≤ k) A Q ∧ Q.length ≤ c))
structure PaS (w0 w : World) (p mb : Nat) (A : Option Addr) (c : Nat) (L : List Tok) (y : St) (OA : Option Addr) (oc : Nat) (Q : List Rl) : Prop where
  rd : RdS w p A c L y
  er : Blk w w0.heap.size 25 #[.int .i64 0, .int .i64 0]
  out : RlO w (fun k => w0.heap.size < k ∧ ¬ y.own p k ∧ k ≠ mb) OA Q.length oc Q
  map : SMap w mb (nmV Q)
  own : ∀ k, y.own p k → p ≤ k ∧ k ≠ mb
  oat : ∀ k, At OA k → mb < k
  lt : w0.heap.size < p ∧ p < mb
  upd : Upd Non w0 w
section
variable {w0 w w' : World} {p mb : Nat} {A : Option Addr} {c : Nat} {L : List Tok} {y y' : St} {OA : Option Addr} {oc : Nat} {Q : List Rl}
theorem RdS.own_ne2 {n : Nat} {cs : List Value} (h : RdS w p A c L y) (o : Own w 33 14 OA n oc cs) : ∀ k, At OA k → ¬ y.own p k := fun k hk q => by
  rcases q with rfl | q | q
  · exact o.ne_blk h.blk (by decide) hk
  · exact o.ne_type h.v (by decide) hk q
  · exact o.ne_type h.m (by decide) hk q
theorem PaS.call (h : PaS w0 w p mb A c L y OA oc Q) (hr : RdS w' p A c L y') (ho : ∀ k, y'.own p k → y.own p k ∨ w.heap.size ≤ k) (u : Upd (y.own p) w w') : PaS w0 w' p mb A c L y' OA oc Q := by
  obtain ⟨_, cs, hown, _⟩ := id h.out
  have hne := h.rd.own_ne2 hown
  have hmb := h.map.lt
  have hlt := h.lt
  refine ⟨hr, h.er.upd u (fun q => by have := (h.own _ q).1; omega), ?_, h.map.upd u (fun q => (h.own _ q).2 rfl), fun k q => ?_, h.oat, h.lt, h.upd.trans u (fun k hk q => by have := (h.own _ q).1; omega)⟩
  · have g1 : RlO w (fun k => (w0.heap.size < k ∧ ¬ y.own p k ∧ k ≠ mb) ∧ k < w.heap.size) OA Q.length oc Q := h.out.mono (fun k hk q => ⟨q, hk⟩)
    refine (g1.upd u hne (fun k _ q => q.1.2.1)).mono (fun k _ q => ⟨q.1.1, fun r => ?_, q.1.2.2⟩)
    rcases ho k r with r | r
    · exact q.1.2.1 r
    · exact Nat.lt_irrefl _ (Nat.lt_of_lt_of_le q.2 r)
  · rcases ho k q with r | r
    · exact h.own k r
    · exact ⟨by omega, by omega⟩
theorem PaS.non (h : PaS w0 w p mb A c L y OA oc Q) (u : Upd Non w w') : PaS w0 w' p mb A c L y OA oc Q :=
  h.call (h.rd.non u) (fun _ q => .inl q) (u.mono (fun _ _ f => f.elim))
/-- A rule more, and its name. -/
theorem PaS.app (h : PaS w0 w p mb A c L y OA oc Q) {rl : Rl} {a : RlA} {m : Nat} (hk : RlK w (fun k => m ≤ k ∧ ¬ y.own p k) rl a) (hm : mb < m) (hA : ∀ k, At OA k → k < m) {cs : List Value} (hc : RsCells w (fun k => (w0.heap.size < k ∧ ¬ y.own p k ∧ k ≠ mb) ∧ ¬ At OA k) cs Q) {w2 w3 w4 : World} (hs : SMap w2 mb (nmV (Q ++ [rl]))) (u1 : Upd (· = mb) w w2) (u2 : Upd Non w2 w3) {OB : Option Addr} {ob : Nat} (ho : Own w4 33 14 OB (Q.length + 1) ob (cs ++ (rlCells rl a).toList)) (u3 : Upd (At OA) w3 w4) (hat : ∀ k, At OB k → At OA k ∨ k = w3.heap.size) : PaS w0 w4 p mb A c L y OB ob (Q ++ [rl]) := by
  obtain ⟨hn, cs0, hown, _⟩ := id h.out
  have hne := h.rd.own_ne2 hown
  have hlt := h.lt
  have hmb := h.map.lt
  have s1 := u1.size
  have s2 := u2.size
  have uu : Upd (fun k => k = mb ∨ At OA k) w w4 := ((u1.mono (fun _ _ q => .inl q)).trans (u2.mono (fun _ _ f => f.elim)) (fun _ _ q => q)).trans (u3.mono (fun _ _ q => .inr q)) (fun _ _ q => q)
  have hE : ∀ k, At OA k → k ≠ w0.heap.size := fun k q => by have := h.oat k q; omega
  refine ⟨h.rd.upd uu (fun k hk q => ?_), h.er.upd uu (fun q => ?_), ?_, ?_, h.own, fun k q => ?_, h.lt, h.upd.trans uu (fun k hk q => ?_)⟩
  · rcases q with q | q
    · subst q
      exact ⟨hlt.2, fun r => (h.own _ (.inr (.inl r))).2 rfl, fun r => (h.own _ (.inr (.inr r))).2 rfl⟩
    · exact ⟨by have := h.oat k q; omega, fun r => hne k q (.inr (.inl r)), fun r => hne k q (.inr (.inr r))⟩
  · rcases q with q | q
    · omega
    · exact hE _ q rfl
  · have hc3 : RsCells w3 (fun k => (w0.heap.size < k ∧ ¬ y.own p k ∧ k ≠ mb) ∧ ¬ At OA k) cs Q := (hc.mono u1 (fun k _ q => q.1.2.2) (fun _ _ q => q)).mono u2 (fun _ _ _ f => f) (fun _ _ q => q)
    have hk3 : RlK w3 (fun k => (w0.heap.size < k ∧ ¬ y.own p k ∧ k ≠ mb) ∧ ¬ At OA k) rl a := by
      have := (hk.upd u1 (fun k _ q e => by have := q.1; omega)).upd u2 (fun _ _ _ f => f)
      refine this.mono (fun k _ q => ⟨⟨by have := q.1; omega, q.2, by have := q.1; omega⟩, fun r => by have := hA k r; have := q.1; omega⟩)
    have := RlO.snoc (G' := fun k => w0.heap.size < k ∧ ¬ y.own p k ∧ k ≠ mb) rfl hc3 hk3 ho u3 hat (fun _ _ q => q)
    rw [List.length_append, List.length_singleton]
    exact this
  · exact (hs.upd u2 (fun f => f)).upd u3 (fun q => by have := h.oat _ q; omega)
  · rcases hat k q with r | r
    · exact h.oat k r
    · omega
  · rcases q with q | q
    · omega
    · have := h.oat k q; omega
/-- The error, or none, is written into the result. -/
theorem PaS.res (h : PaS w0 w p mb A c L y OA oc Q) (a b : Value) : Blk (setE2 w w0.heap.size a b) w0.heap.size 25 #[a, b] ∧ Upd Non w0 (setE2 w w0.heap.size a b) ∧ Blk (setE2 w w0.heap.size a b) p 57 (rcells A L.length c y) ∧ RlsV (setE2 w w0.heap.size a b) (fun k => w0.heap.size ≤ k) OA Q := by
  have u := setE2_upd w w0.heap.size a b
  have hlt := h.lt
  refine ⟨setE2_blk h.er a b, h.upd.trans u (fun k hk e => by omega), h.rd.blk.upd u (by omega), ?_⟩
  · have hv : RlsV w (fun k => w0.heap.size < k) OA Q := h.out.view (fun k q => by have := h.oat k q; omega) (fun k _ q => q.1)
    exact (hv.upd u (fun k _ q e => by omega)).mono (fun k _ q => Nat.le_of_lt q)
theorem PaS.fin (h : PaS w0 w p mb A c L y OA oc Q) : RlsV w (fun k => w0.heap.size ≤ k) OA Q ∧ Q.length ≤ oc :=
  ⟨h.out.view (fun k q => by have := h.oat k q; have := h.lt; omega) (fun k _ q => Nat.le_of_lt q.1), h.out.le⟩
end
end Go.Proofs.Ytblkgjdhaibhgaa
