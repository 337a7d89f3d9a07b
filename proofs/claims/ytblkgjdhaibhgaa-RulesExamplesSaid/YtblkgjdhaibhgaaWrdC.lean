/-
  The reader's term: the recursion closed.
  The reader's word, with a closure that writes one block: what it hands back against the plain parser.
-/
import Derived.Test.YtblkgjdhaibhgaaAppC
namespace Go.Proofs.Ytblkgjdhaibhgaa
open Go.RowKit

theorem rTerm_rec {L : List Tok} {T : List (Bs × Nat)} {fin : Nat} (hL : LOk L T fin) (left : Bool) : ∀ (f : Nat) {w : World} {p : Nat} {A : Option Addr} {c : Nat} {x : St}, RdS w p A c L x → Good T x → x.left = left → x.why = 0 → T.length < x.i + f → Calls Try.prog 42 #[.pointer (some ⟨p, 0, none⟩)] w (TermP T w p A c L x (termF T fin left f (psOf x)))
  | 0, _, _, _, _, x, _, hx, _, _, hf => by have := hx.1; omega
  | f + 1, _, _, _, _, _, h, hx, hl, _, hf => rTerm_c hL left f (fun h1 h2 h3 h4 h5 => rApplication_c hL left f (fun g1 g2 g3 g4 g5 => rTerm_rec hL left f g1 g2 g3 g4 g5) h1 h2 h3 h4 h5) h hx hl (fun _ => hf)
/-- term, whatever the state. -/
theorem rTerm_any {L : List Tok} {T : List (Bs × Nat)} {fin : Nat} (hL : LOk L T fin) (left : Bool) (f : Nat) {w : World} {p : Nat} {A : Option Addr} {c : Nat} {x : St} (h : RdS w p A c L x) (hx : Good T x) (hl : x.left = left) (hf : x.why = 0 → T.length < x.i + (f + 1)) : Calls Try.prog 42 #[.pointer (some ⟨p, 0, none⟩)] w (TermP T w p A c L x (termF T fin left (f + 1) (psOf x))) :=
  rTerm_c hL left f (fun h1 h2 h3 h4 h5 => rApplication_c hL left f (fun g1 g2 g3 g4 g5 => rTerm_rec hL left f g1 g2 g3 g4 g5) h1 h2 h3 h4 h5) h hx hl hf
end Go.Proofs.Ytblkgjdhaibhgaa

namespace Go.Proofs.Ytblkgjdhaibhgaa
open Go.RowKit

def WrdP {α β : Type} (T : List (Bs × Nat)) (w : World) (p g : Nat) (t : TypeId) (val : β → Array Value) (A : Option Addr) (c : Nat) (L : List Tok) (x : St) (P : α → β → Prop) (r : Except Er (α × PS)) (e : Ending) (w' : World) : Prop :=
  ∃ (k : β) (y : St) (ts : Bs) (tp : Nat), e = .returned (tokVal ts tp) ∧ (y.why = 0 → tkF T x.i = some ts ∧ tp = posT L x.i) ∧ Blk w' g t (val k) ∧ RdS w' p A c L y ∧ Good T y ∧ y.left = x.left ∧ (∀ k, y.own p k → x.own p k ∨ w.heap.size ≤ k) ∧ Upd (fun k => x.own p k ∨ k = g) w w' ∧ ResS x y r (fun v => P v k ∧ x.i + 1 ≤ y.i)
theorem rWordG_c {α β : Type} {L : List Tok} {T : List (Bs × Nat)} {fin : Nat} (hL : LOk L T fin) {w : World} {p : Nat} {A : Option Addr} {c : Nat} {x : St} (h : RdS w p A c L x) (hx : Good T x) (f : FuncId) (cap : Array Value) (hcf : ∀ (args : Array Value) (w : World), (callFunc f args).run Try.prog w = .ok (.enter f args) w)
    {g : Nat} {t : TypeId} (val : β → Array Value) (b0 : β) (hg : Blk w g t (val b0)) (hpg : p < g) (F : Bs → PS → Option (α × PS)) (P : α → β → Prop)
    (hF : ∀ s ps v y, F s ps = some (v, y) → y.vs.length ≤ ps.vs.length + 1 ∧ y.ms.length ≤ ps.ms.length + 1)
    (HF : ∀ s w1, s ≠ [] → s.length ≤ 20000 → x.why = 0 → Upd Non w w1 → Calls Try.prog f (#[.string (kstr s)] ++ cap) w1 (fun e w2 => ∃ (b : Bool) (k : β) (x2 : St), e = .returned (.bool b) ∧ Blk w2 g t (val k) ∧ RdS w2 p A c L x2 ∧ Keeps w1 p x x2 ∧ Upd (fun k => x.own p k ∨ k = g) w1 w2 ∧ (b = true → ∃ v ps, F s (psOf x) = some (v, ps) ∧ P v k ∧ x2.vs = ps.vs ∧ x2.ms = ps.ms) ∧ (b = false → F s (psOf x) = none))) :
    Calls Try.prog 40 #[.pointer (some ⟨p, 0, none⟩), .func (.func f) #[] cap] w (WrdP T w p g t val A c L x P (wrdF T fin F (psOf x))) := by
  have hiL : x.i < L.length := by have := hL.lt; have := hx.1; omega
  have hpos := hL.pos hx.1
  have hgw := hg.lt
  have hown : ∀ j, x.own p j → j < w.heap.size := fun j hj => h.lt hj
  refine (rWord_c h hiL hL.len (hL.ne' hiL hx.1) f cap hcf
    (fun bb x2 w1 w2 => ∃ k, Blk w2 g t (val k) ∧ (∀ k, x2.own p k → x.own p k ∨ w1.heap.size ≤ k) ∧ x2.left = x.left ∧ Upd (fun k => x.own p k ∨ k = g) w1 w2 ∧ (bb = true → ∃ v ps, F L[x.i].s (psOf x) = some (v, ps) ∧ P v k ∧ x2.vs = ps.vs ∧ x2.ms = ps.ms) ∧ (bb = false → F L[x.i].s (psOf x) = none))
    (fun hok w1 u01 => by
      rw [hL.word hx.1, Bool.and_eq_true, beq_iff_eq] at hok
      obtain ⟨sw, hsw⟩ := Option.isSome_iff_exists.1 hok.2
      obtain ⟨f1, f2, f3, f4, f5, f6, f7⟩ := hL.at_ hiL hsw
      refine (HF L[x.i].s w1 (by rw [f1]; exact f3) (by rw [f1]; exact f4) hok.1 u01).mono ?_
      rintro e w2 ⟨b, k, y, rfl, k2, k3, k4, k5, k6, k7⟩
      exact ⟨b, y, rfl, k3, k4.i, k4.why.trans hok.1, k5.mono (fun j _ r => by rcases r with r | r; exact hown _ r; rw [r]; exact hgw), k4.own, k, k2, k4.own, k4.left, k5, k6, k7⟩)).mono ?_
  rintro e w5 hwd
  rcases hwd with ⟨hok, bb, x2, w1, w2, u01, ⟨k, hqb, hqo, hql, hqu, ht, hff⟩, hi2, hw2, _, u2, rfl, hR⟩ | ⟨hok, rfl, hR, hu⟩
  · rw [hL.word hx.1, Bool.and_eq_true, beq_iff_eq] at hok
    obtain ⟨sw, hsw⟩ := Option.isSome_iff_exists.1 hok.2
    obtain ⟨f1, f2, f3, f4, f5, f6, f7⟩ := hL.at_ hiL hsw
    rw [f1] at ht hff
    have hwr : wrdF T fin F (psOf x) = match F sw (psOf x) with | some (a, y) => .ok (a, { y with i := x.i + 1 }) | none => .error (serr T fin x.i) := by
      rw [wrd_eq, show (psOf x).i = x.i from rfl, hsw]
      rfl
    have hqb5 : Blk w5 g t (val k) := hqb.upd u2 (by omega)
    have hu4 : Upd (fun k => x.own p k ∨ k = g ∨ k = w.heap.size) w1 w5 := (hqu.mono (T := fun k => x.own p k ∨ k = g ∨ k = w.heap.size) (fun _ _ h => by rcases h with h | h; exact .inl h; exact .inr (.inl h))).trans u2 (fun _ _ h => by rcases h with h | h; exact .inl (.inl h); exact .inr (.inr h))
    have hu5 : Upd (fun k => x.own p k ∨ k = g) w w5 := (u01.mono (fun _ _ f => f.elim)).trans hu4 (fun k hk q => by
      rcases q with q | q | q
      · exact .inl q
      · exact .inr q
      · omega)
    have ho5 : ∀ k, x2.own p k → x.own p k ∨ w.heap.size ≤ k := fun k hk => (hqo k hk).imp_right (fun r => Nat.le_trans u01.size r)
    cases bb with
    | true =>
      obtain ⟨v, ps, ha, hP, hvs, hms⟩ := ht rfl
      rw [ha] at hwr
      have hgx := hx.2 hok.1
      have hol := hF _ _ _ _ ha
      refine ⟨k, { x2 with i := x.i + 1 }, _, _, rfl, fun _ => ⟨by rw [f1]; exact f6, posT_eq hiL |>.symm⟩, hqb5, hR, ⟨f5, fun _ => ?_⟩, hql, ho5, hu5, fun _ => ?_, fun q => absurd hok.1 q⟩
      · show x2.vs.length ≤ x.i + 1 ∧ x2.ms.length ≤ x.i + 1
        rw [hvs, hms]
        have : (psOf x).vs.length = x.vs.length := rfl
        have : (psOf x).ms.length = x.ms.length := rfl
        omega
      · rw [hwr]
        refine ⟨hw2, ?_, hP, Nat.le_refl _⟩
        show (⟨x.i + 1, x2.vs, x2.ms⟩ : PS) = ⟨x.i + 1, ps.vs, ps.ms⟩
        rw [hvs, hms]
    | false =>
      rw [hff rfl] at hwr
      refine ⟨k, x2.fail 2 (posT L x.i), [], 0, rfl, fun q => ?_, hqb5, hR, Good.fail (by rw [hi2]; omega) (by decide), by rw [fail_left]; exact hql, fun k hk => ho5 k ((fail_own _ _ _ _ _).1 hk), hu5, fun _ => ?_, fun q => absurd hok.1 q⟩
      · rw [fail_zero hw2] at q; exact absurd (show (2 : Int) = 0 from q) (by decide)
      · rw [hwr, fail_zero hw2, hpos]
        exact ⟨rfl, rfl⟩
  · refine ⟨b0, x.fail 2 (posT L x.i), [], 0, rfl, fun q => ?_, hg.upd hu (by omega), hR, Good.fail hx.1 (by decide), fail_left _ _ _, fun k hk => .inl ((fail_own _ _ _ _ _).1 hk), hu.mono (fun _ _ h => .inl (.inl h)), fun h0 => ?_, fun h1 => by rw [fail_why h1]; exact ⟨rfl, rfl⟩⟩
    · by_cases h0 : x.why = 0
      · rw [fail_zero h0] at q; exact absurd (show (2 : Int) = 0 from q) (by decide)
      · rw [fail_why h0] at q; exact absurd q h0
    · rw [hL.word hx.1, h0] at hok
      rw [wrd_eq, show (psOf x).i = x.i from rfl]
      cases hk : wkF T x.i with
      | none =>
        rw [fail_zero h0, hpos]
        exact ⟨rfl, rfl⟩
      | some sw => rw [hk] at hok; cases hok
end Go.Proofs.Ytblkgjdhaibhgaa
