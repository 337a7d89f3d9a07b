/-
  The reader's condition and its closure.
-/
import Derived.Test.YtblkgjdhaibhgaaNumR
namespace Go.Proofs.Ytblkgjdhaibhgaa
open Go.RowKit

theorem condL_len : condL.length = 6 := rfl
set_option maxRecDepth 100000 in
theorem condNames_c (w : World) : Calls Try.prog 54 #[] w fun e w' => e = .returned (.slice (some ⟨w.heap.size, 0, none⟩) 6 6) ∧ Sl w' (fun _ => True) (some ⟨w.heap.size, 0, none⟩) (sCells condL) ∧ Sl w' (fun k => k = w.heap.size) (some ⟨w.heap.size, 0, none⟩) (sCells condL) ∧ Upd Non w w' := by
  go_enter Try.func54, Try.ntmps54
  go_wp2_with fail
  go_ret
  exact ⟨rfl, Sl.new' w _ _ rfl, Sl.new w _ (sCells condL), Upd.refl.alloc _⟩
/-- The last index of s, plus one; a where there is none. -/
def kndF : List Bs → Bs → Nat → Nat → Nat
  | [], _, _, a => a
  | n :: l, s, i, a => kndF l s (i + 1) (if n = s then i + 1 else a)
theorem kndF_step {l : List Bs} {k : Nat} (h : k < l.length) (s : Bs) (i a : Nat) : kndF (l.drop k) s i a = kndF (l.drop (k + 1)) s (i + 1) (if l[k] = s then i + 1 else a) := by
  rw [List.drop_eq_getElem_cons h]; rfl
theorem knd_eq (s : Bs) : kndF condL s 0 0 = ((findL condL s 0).map (· + 1)).getD 0 := by
  by_cases h : s ∈ condL
  · have h2 : ∀ x ∈ condL, kndF condL x 0 0 = ((findL condL x 0).map (· + 1)).getD 0 := by decide +kernel
    exact h2 s h
  · have h1 : ∀ (l : List Bs) (i : Nat), s ∉ l → kndF l s i 0 = 0 ∧ findL l s i = none := by
      intro l
      induction l with
      | nil => intro i _; exact ⟨rfl, rfl⟩
      | cons n l ih =>
        intro i hn
        have hne : ¬ n = s := fun e => hn (by rw [e]; exact List.mem_cons_self)
        have := ih (i + 1) (fun q => hn (List.mem_cons_of_mem _ q))
        simp only [kndF, findL, if_neg hne]
        exact this
    obtain ⟨e1, e2⟩ := h1 condL 0 h
    rw [e1, e2]; rfl
def knF (s : Bs) (x : PS) : Option (Nat × PS) := (findL condL s 0).map fun i => (i + 1, x)
def cdc (k : Int) : Array Value := #[.int .i64 k, .int .i64 0, .int .i64 0, .int .i64 0]
/-- What the closure of cond hands back. -/
def ClsK (w : World) (p g : Nat) (A : Option Addr) (c : Nat) (L : List Tok) (x : St) (o : Option (Nat × PS)) (e : Ending) (w' : World) : Prop :=
  ∃ (b : Bool) (k : Int) (x2 : St), e = .returned (.bool b) ∧ Blk w' g 66 (cdc k) ∧ RdS w' p A c L x2 ∧ Keeps w p x x2 ∧ Upd (fun k => x.own p k ∨ k = g) w w' ∧ (b = true → ∃ v ps, o = some (v, ps) ∧ k = (v : Int) ∧ x2.vs = ps.vs ∧ x2.ms = ps.ms) ∧ (b = false → o = none)
set_option maxRecDepth 100000 in
set_option maxHeartbeats 4000000 in
theorem rCond1_c {w : World} {p g : Nat} {A : Option Addr} {c : Nat} {L : List Tok} {x : St} (h : RdS w p A c L x) (s : Bs) (hg : Blk w g 66 (cdc 0)) (hgo : ¬ x.own p g) (hpg : p < g) :
    Calls Try.prog 67 #[.string (kstr s), .pointer (some ⟨g, 0, none⟩)] w (ClsK w p g A c L x (knF s (psOf x))) := by
  have C := Lib.hid (condNames_c w)
  obtain ⟨o, Ho⟩ := nm (knF s (psOf x))
  rw [Ho.out]
  obtain ⟨V, HV⟩ := nm (kndF condL s 0 0)
  have H := Lib.hid h
  have HG := Lib.hid hg
  have hgw := hg.lt
  obtain ⟨str, Hstr⟩ := nm (kstr s)
  rw [Hstr.out]
  clear h hg
  go_enter Try.func67, Try.ntmps67
  go_wp2_with fail
  refine C.out.mono ?_
  rintro e W ⟨rfl, _, hs, hu⟩
  clear C
  have HG1 := Lib.hid (HG.out.upd hu (fun f => f))
  have HU := Lib.hid hu

  go_wp2_with fail
  obtain ⟨A', HA⟩ := nm (some (⟨w.heap.size, 0, none⟩ : Addr))
  rw [HA.out] at hs ⊢
  clear hu
  go_loopg [8] 6 (fun g1 i wr => ∃ (k a : Nat), Hid (g1 = 6 - k) ∧ k ≤ 6 ∧ i = .int .i64 k ∧ Hid (V = kndF (condL.drop k) s k a) ∧ Hid (Blk wr g 66 (cdc a)) ∧ Upd (· = g) W wr)
  case atStart => exact ⟨0, 0, rfl, by omega, rfl, HV.out.symm, HG1.out, Upd.refl⟩
  case round =>
    obtain ⟨k, a, Hg, hk, rfl, HK, HB, hu1⟩ := hrel
    by_cases hlt : k < 6
    · have ti : decide ((k : Int) < 6) = true := decide_eq_true (by omega)
      have hkl : k < condL.length := hlt
      have hs1 := hs.upd hu1 (fun j _ e q => by omega)
      obtain ⟨b, o', rfl, hFb, _, hc⟩ := hs1.at_ (k := k) (by simpa [sCells] using hkl)
      have HF := Lib.hid (kndF_step hkl s k a)
      have hc2 : wr.cell? ⟨b, o' + k, none⟩ = some (.string (kstr condL[k])) := by rw [hc]; simp [sCells]
      generalize condL[k] = nk at hc2 HF
      have hq : ((kstr nk).toList == str.toList) = decide (nk = s) := by rw [← Hstr.out, str_beq]
      obtain ⟨nks, Hnks⟩ := nm (kstr nk)
      rw [Hnks.out] at hc2 hq
      have hb := HB.out
      unfold cdc at hb
      have y0 := hb.cell 0
      have f0 := hb.frozen 0
      have hw1 : IntKind.i64.wrap (1 + (k : Int)) = 1 + (k : Int) := i64w_of (by unfold I64; omega)
      have hw2 : wrap64 (1 + (k : Int)) = 1 + (k : Int) := wrap64_of (by unfold I64; omega)
      clear hc hs1 hb hFb
      by_cases he : nk = s
      · rw [decide_eq_true he] at hq
        have HK2 : Hid (V = kndF (condL.drop (k + 1)) s (k + 1) (k + 1)) := by show _ = _; rw [HK.out, HF.out, if_pos he]
        clear he HF HK
        go_wp2_with fail
        go_roundg (6 - (k + 1))
        case measure => rw [Hg.out]; omega
        case rel => exact ⟨k + 1, k + 1, rfl, by omega, by go_num, HK2, by have := HB.out.set_ 0 (.int .i64 (1 + (k : Int))); rw [show ((k + 1 : Nat) : Int) = 1 + (k : Int) by omega]; exact (by simpa [cdc] using this : Blk _ _ _ _), hu1.trans (updCell _ _ _ _) (fun _ _ q => q)⟩
      · rw [decide_eq_false he] at hq
        have HK2 : Hid (V = kndF (condL.drop (k + 1)) s (k + 1) a) := by show _ = _; rw [HK.out, HF.out, if_neg he]
        clear he HF HK
        go_wp2_with fail
        go_roundg (6 - (k + 1))
        case measure => rw [Hg.out]; omega
        case rel => exact ⟨k + 1, a, rfl, by omega, by go_num, HK2, HB.out, hu1⟩
    · obtain rfl : k = 6 := by omega
      have HR : Hid (V = a) := by show _ = _; rw [HK.out, List.drop_of_length_le (by rw [condL_len]; exact Nat.le_refl _)]; rfl
      have HE := Lib.hid (knd_eq s)
      have hb := HB.out
      unfold cdc at hb
      have y0 := hb.cell 0
      have HU1 := Lib.hid hu1
      clear HK hb hu1
      by_cases ha : 0 < a
      · have fp : decide ((0 : Int) < (a : Int)) = true := decide_eq_true (by omega)
        go_wp2_with fail
        go_ret
        refine ⟨true, a, x, rfl, HB.out, (H.out.non HU.out).upd HU1.out (fun k _ e => by subst e; exact ⟨hpg, fun r => hgo (.inr (.inl r)), fun r => hgo (.inr (.inr r))⟩), Keeps.refl, (HU.out.mono (fun _ _ f => f.elim)).trans HU1.out (fun _ _ q => .inr q), fun _ => ?_, fun q => by cases q⟩
        have h1 := HE.out
        rw [HV.out, HR.out] at h1
        cases hf : findL condL s 0 with
        | none => rw [hf] at h1; simp at h1; omega
        | some i =>
          rw [hf] at h1
          exact ⟨i + 1, psOf x, by rw [← Ho.out]; unfold knF; rw [hf]; rfl, by rw [h1]; rfl, rfl, rfl⟩
      · have HP := Lib.hid ha
        obtain rfl : a = 0 := by omega
        have fp : decide ((0 : Int) < ((0 : Nat) : Int)) = false := by decide
        go_wp2_with fail
        go_ret
        refine ⟨false, 0, x, rfl, HB.out, (H.out.non HU.out).upd HU1.out (fun k _ e => by subst e; exact ⟨hpg, fun r => hgo (.inr (.inl r)), fun r => hgo (.inr (.inr r))⟩), Keeps.refl, (HU.out.mono (fun _ _ f => f.elim)).trans HU1.out (fun _ _ q => .inr q), fun q => (by cases q), fun _ => ?_⟩
        have h1 := HE.out
        rw [HV.out, HR.out] at h1
        cases hf : findL condL s 0 with
        | none => rw [← Ho.out]; unfold knF; rw [hf]; rfl
        | some i => rw [hf] at h1; simp at h1
theorem ResS.bind {α β : Type} {x y z : St} {r : Except Er (α × PS)} {P : α → Prop} {g : α → PS → Except Er (β × PS)} {Q : β → Prop} (h : ResS x y r P) (hne : ∀ e, r = .error e → e.1 ≠ 0) (hk : ∀ v, P v → y.why = 0 → ResS y z (g v (psOf y)) Q) (he : y.why ≠ 0 → z.why = y.why ∧ z.ea = y.ea) :
    ResS x z (match r with | .error e => .error e | .ok (v, s) => g v s) Q := by
  refine ⟨fun h0 => ?_, fun h0 => ?_⟩
  · have h1 := h.1 h0
    cases r with
    | error e =>
      have hn : y.why ≠ 0 := by rw [h1.1]; exact hne _ rfl
      exact ⟨(he hn).1.trans h1.1, (he hn).2.trans h1.2⟩
    | ok v =>
      obtain ⟨v, s⟩ := v
      obtain ⟨g0, rfl, hP⟩ := h1
      exact (hk v hP g0).1 g0
  · have h1 := h.2 h0
    have hn : y.why ≠ 0 := by rw [h1.1]; exact h0
    exact ⟨(he hn).1.trans h1.1, (he hn).2.trans h1.2⟩
/-- The reader in a call that has m blocks of its own. -/
structure LocS (m : Nat) (w0 w : World) (p : Nat) (A : Option Addr) (c : Nat) (L : List Tok) (x y : St) : Prop where
  rd : RdS w p A c L y
  own : ∀ k, y.own p k → x.own p k ∨ w0.heap.size + m ≤ k
  xlt : ∀ k, x.own p k → k < w0.heap.size
  upd : Upd (x.own p) w0 w
  le : w0.heap.size + m ≤ w.heap.size
section
variable {m : Nat} {w0 w w' : World} {p : Nat} {A : Option Addr} {c : Nat} {L : List Tok} {x y y' : St}
theorem LocS.not (h : LocS m w0 w p A c L x y) {b : Nat} (h1 : w0.heap.size ≤ b) (h2 : b < w0.heap.size + m) : ¬ y.own p b := fun q => by
  rcases h.own b q with r | r
  · have := h.xlt b r; omega
  · omega
theorem LocS.call (h : LocS m w0 w p A c L x y) (hr : RdS w' p A c L y') (ho : ∀ k, y'.own p k → y.own p k ∨ w.heap.size ≤ k) (u : Upd (y.own p) w w') : LocS m w0 w' p A c L x y' := by
  have hl := h.le
  refine ⟨hr, fun k q => ?_, h.xlt, h.upd.trans u (fun k hk q => ?_), Nat.le_trans hl u.size⟩
  · rcases ho k q with r | r
    · exact h.own k r
    · exact .inr (by omega)
  · rcases h.own k q with r | r
    · exact r
    · omega
theorem LocS.keep (h : LocS m w0 w p A c L x y) (u : Upd (y.own p) w w') {b : Nat} (h1 : w0.heap.size ≤ b) (h2 : b < w0.heap.size + m) {t : TypeId} {cs : Array Value} (hb : Blk w b t cs) : Blk w' b t cs := hb.upd u (h.not h1 h2)
theorem LocS.loc (h : LocS m w0 w p A c L x y) {b : Nat} (u : Upd (· = b) w w') (h1 : w0.heap.size ≤ b) (h2 : b < w0.heap.size + m) : LocS m w0 w' p A c L x y := by
  have hn := h.not h1 h2
  have hp := h.xlt p (.inl rfl)
  exact ⟨h.rd.upd u (fun k _ e => by subst e; exact ⟨by omega, fun r => hn (.inr (.inl r)), fun r => hn (.inr (.inr r))⟩), h.own, h.xlt, h.upd.trans u (fun k hk e => by omega), Nat.le_trans h.le u.size⟩
theorem LocS.non (h : LocS m w0 w p A c L x y) (u : Upd Non w w') : LocS m w0 w' p A c L x y :=
  ⟨h.rd.non u, h.own, h.xlt, h.upd.then_non u, Nat.le_trans h.le u.size⟩
end
def set4 (w : World) (g : Nat) (a b c d : Value) : World := (((w.setCell ⟨g, 0, none⟩ a).setCell ⟨g, 1, none⟩ b).setCell ⟨g, 2, none⟩ c).setCell ⟨g, 3, none⟩ d
theorem set4_blk {w : World} {g : Nat} {t : TypeId} {x0 x1 x2 x3 : Value} (h : Blk w g t #[x0, x1, x2, x3]) (a b c d : Value) : Blk (set4 w g a b c d) g t #[a, b, c, d] := by
  have h1 := (((h.set_ 0 a).set_ 1 b).set_ 2 c).set_ 3 d
  simpa [set4] using h1
theorem set4_upd (w : World) (g : Nat) (a b c d : Value) : Upd (· = g) w (set4 w g a b c d) :=
  (((Upd.refl.setCell (S := (· = g)) (p := ⟨g, 0, none⟩) (.inl rfl) _).setCell (p := ⟨g, 1, none⟩) (.inl rfl) _).setCell (p := ⟨g, 2, none⟩) (.inl rfl) _).setCell (p := ⟨g, 3, none⟩) (.inl rfl) _
theorem set4_eq (w : World) (g : Nat) (a b c d : Value) : (((w.setCell ⟨g, 0, none⟩ a).setCell ⟨g, 1, none⟩ b).setCell ⟨g, 2, none⟩ c).setCell ⟨g, 3, none⟩ d = set4 w g a b c d := rfl
/-- What cond reads behind its first variable. -/
def CdR (T : List (Bs × Nat)) (fin : Nat) (z u : St) (k b n : Int) : Prop :=
  (k = 2 ∨ k = 3 → b = 0 ∧ ResS z u (numbF T fin (psOf z)) (fun v => v = n ∧ z.i + 1 ≤ u.i)) ∧ (k = 4 → n = 0 ∧ ResS z u (pvarF T fin (psOf z)) (fun (v : Nat) => b = (v : Int) ∧ z.i + 1 ≤ u.i)) ∧
  (k = 5 ∨ k = 6 → n = 0 ∧ ResS z u (ivarF T fin (psOf z)) (fun (v : Nat) => b = (v : Int) ∧ z.i + 1 ≤ u.i)) ∧ (k = 1 → b = 0 ∧ n = 0 ∧ u = z) ∧ (z.why ≠ 0 → u.why = z.why ∧ u.ea = z.ea)
theorem kind_le {T : List (Bs × Nat)} {fin : Nat} {x y : PS} {v : Nat} (h : kindF T fin x = .ok (v, y)) : 1 ≤ v ∧ v ≤ 6 := by
  have hf : ∀ (l : List Bs) (s : Bs) (i j : Nat), findL l s i = some j → i ≤ j ∧ j < i + l.length := by
    intro l
    induction l with
    | nil => intro s i j h; cases h
    | cons n l ih =>
      intro s i j h
      simp only [findL] at h
      split at h
      · injection h with h; subst h; simp
      · have := ih s (i + 1) j h; simp only [List.length_cons]; omega
  unfold kindF at h
  rw [wrd_eq] at h
  split at h
  · split at h
    · rename_i a y' h2
      injection h with h; injection h with h _; subst h
      cases hd : findL condL _ 0 with
      | none => rw [hd] at h2; cases h2
      | some j =>
        rw [hd] at h2
        simp only [Option.map_some] at h2
        injection h2 with h2; injection h2 with h2 _; subst h2
        have := hf _ _ _ _ hd
        rw [condL_len] at this
        omega
    · cases h
  · cases h
theorem pcond_fin {T : List (Bs × Nat)} {fin : Nat} {x y z u : St} {k a b n : Int} (h1 : ResS x y (kindF T fin (psOf x)) (fun (v : Nat) => k = (v : Int) ∧ x.i + 1 ≤ y.i))
    (h2 : ResS y z (if k = 6 then ivarF T fin (psOf y) else pvarF T fin (psOf y)) (fun (v : Nat) => a = (v : Int) ∧ y.i + 1 ≤ z.i)) (h3 : CdR T fin z u k b n) :
    ResS x u (pcondF T fin (psOf x)) (fun v => v = ⟨k, a, b, n⟩ ∧ x.i + 1 ≤ u.i) := by
  obtain ⟨g1, g2, g3, g4, he⟩ := h3
  have he1 : y.why ≠ 0 → u.why = y.why ∧ u.ea = y.ea := fun q => by
    have e1 := h2.2 q
    have e2 := he (by rw [e1.1]; exact q)
    exact ⟨e2.1.trans e1.1, e2.2.trans e1.2⟩
  refine ⟨fun h0 => ?_, fun h0 => ?_⟩
  · have k1 := h1.1 h0
    unfold pcondF
    cases hk : kindF T fin (psOf x) with
    | error e =>
      rw [hk] at k1
      have hn : y.why ≠ 0 := by rw [k1.1]; exact wrdF_err hk
      exact ⟨(he1 hn).1.trans k1.1, (he1 hn).2.trans k1.2⟩
    | ok v =>
      obtain ⟨v, ps⟩ := v
      have hv := kind_le hk
      rw [hk] at k1
      obtain ⟨hy0, rfl, rfl, hi1⟩ := k1
      dsimp only
      have k2 := h2.1 hy0
      have e6 : (if ((v : Nat) : Int) = 6 then ivarF T fin (psOf y) else pvarF T fin (psOf y)) = (if v = 6 then ivarF T fin (psOf y) else pvarF T fin (psOf y)) := by
        by_cases q : v = 6
        · rw [if_pos q, if_pos (by omega)]
        · rw [if_neg q, if_neg (by omega)]
      rw [e6] at k2
      cases hA : (if v = 6 then ivarF T fin (psOf y) else pvarF T fin (psOf y)) with
      | error e =>
        rw [hA] at k2
        have hn : z.why ≠ 0 := by
          rw [k2.1]
          split at hA
          · exact wrdF_err hA
          · exact wrdF_err hA
        exact ⟨(he hn).1.trans k2.1, (he hn).2.trans k2.2⟩
      | ok va =>
        obtain ⟨va, ps⟩ := va
        rw [hA] at k2
        obtain ⟨hz0, rfl, rfl, hi2⟩ := k2
        dsimp only
        by_cases c1 : v = 1
        · obtain ⟨rfl, rfl, rfl⟩ := g4 (by omega)
          subst c1
          rw [if_pos rfl]
          exact ⟨hz0, rfl, rfl, by omega⟩
        · rw [if_neg c1]
          by_cases c2 : v = 2 ∨ v = 3
          · obtain ⟨rfl, r⟩ := g1 (by omega)
            have r := r.1 hz0
            rw [if_pos c2]
            cases hN : numbF T fin (psOf z) with
            | error e => rw [hN] at r; exact r
            | ok v2 => rw [hN] at r; obtain ⟨r0, r1, r2, r3⟩ := r; exact ⟨r0, r1, by rw [r2], by omega⟩
          · rw [if_neg c2]
            by_cases c4 : v = 4
            · obtain ⟨rfl, r⟩ := g2 (by omega)
              have r := r.1 hz0
              rw [if_pos c4]
              cases hN : pvarF T fin (psOf z) with
              | error e => rw [hN] at r; exact r
              | ok v2 => rw [hN] at r; obtain ⟨r0, r1, r2, r3⟩ := r; exact ⟨r0, r1, by rw [r2, c4]; rfl, by omega⟩
            · obtain ⟨rfl, r⟩ := g3 (by omega)
              have r := r.1 hz0
              rw [if_neg c4]
              cases hN : ivarF T fin (psOf z) with
              | error e => rw [hN] at r; exact r
              | ok v2 => rw [hN] at r; obtain ⟨r0, r1, r2, r3⟩ := r; exact ⟨r0, r1, by rw [r2], by omega⟩
  · have k1 := h1.2 h0
    have hn : y.why ≠ 0 := by rw [k1.1]; exact h0
    exact ⟨(he1 hn).1.trans k1.1, (he1 hn).2.trans k1.2⟩
end Go.Proofs.Ytblkgjdhaibhgaa
