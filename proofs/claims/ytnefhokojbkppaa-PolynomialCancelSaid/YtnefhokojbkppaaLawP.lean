/-
  The six laws of PolynomialLaws, in plain terms. No condition of its own.
-/
import Derived.Test.YtnefhokojbkppaaSndP
namespace Go.Proofs.Ytnefhokojbkppaa
open Go.RowKit

def opP (k : Int) (a b : Pt) : Pt := .mk 0 k 0 0 [a, b]
def unP (k : Int) (a : Pt) : Pt := .mk 0 k 0 0 [a]
def oneP : Pt := .mk 0 1 1 0 []
def lhsP (p q r : Pt) : Nat → Pt
  | 0 => opP 4 p q
  | 1 => opP 6 p q
  | 2 => opP 6 p (opP 4 q r)
  | 3 => opP 5 p q
  | 4 => opP 6 (opP 6 p q) r
  | _ => unP 21 (opP 5 p q)
def rhsP (p q r : Pt) : Nat → Pt
  | 0 => opP 4 q p
  | 1 => opP 6 q p
  | 2 => opP 4 (opP 6 p q) (opP 6 p r)
  | 3 => opP 4 p (unP 20 q)
  | 4 => opP 6 p (opP 6 q r)
  | _ => opP 5 q (opP 4 p oneP)
theorem scale_scale (a b : Int) (l : PL) : scale a (scale b l) = scale (a * b) l := by
  unfold scale
  rw [List.map_map]
  exact List.map_congr_left fun t _ => by simp only [Function.comp]; rw [Int.mul_assoc]
theorem scale_app (a : Int) (l m : PL) : scale a (l ++ m) = scale a l ++ scale a m := List.map_append
/-- Both sides of a law have equal terms. -/
theorem laws_eqv {p q r : Pt} (hp : PolyPt 3 p) (hq : PolyPt 3 q) (hr : PolyPt 3 r) (i : Nat) : ∃ l l', tm 3 (lhsP p q r i) = some l ∧ tm 3 (rhsP p q r i) = some l' ∧ Eqv l l' := by
  obtain ⟨lp, h1⟩ := PolyPt.wf (n := 3) hp
  obtain ⟨lq, h2⟩ := PolyPt.wf (n := 3) hq
  obtain ⟨lr, h3⟩ := PolyPt.wf (n := 3) hr
  match i with
  | 0 => exact ⟨_, _, tm_add h1 h2, tm_add h2 h1, Eqv.comm _ _⟩
  | 1 => exact ⟨_, _, tm_mul h1 h2, tm_mul h2 h1, pairs_comm _ _⟩
  | 2 => exact ⟨_, _, tm_mul h1 (tm_add h2 h3), tm_add (tm_mul h1 h2) (tm_mul h1 h3), pairs_append _ _ _⟩
  | 3 => exact ⟨_, _, tm_sub h1 h2, tm_add h1 (tm_neg h2), Eqv.refl⟩
  | 4 => exact ⟨_, _, tm_mul (tm_mul h1 h2) h3, tm_mul h1 (tm_mul h2 h3), pairs_assoc _ _ _⟩
  | n + 5 =>
    refine ⟨_, _, tm_not (tm_sub h1 h2), tm_sub h2 (tm_add h1 (tm_const 1)), Eqv.of fun x => ?_⟩
    rw [coef_cons, coef_scale, coef_append, coef_scale, coef_append, coef_scale, coef_append, coef_one]
    split <;> omega
theorem lhs_size {p q r : Pt} (hp : p.size ≤ 62) (hq : q.size ≤ 62) (hr : r.size ≤ 62) (i : Nat) : (lhsP p q r i).size ≤ 1000 ∧ (rhsP p q r i).size ≤ 1000 := by
  match i with
  | 0 | 1 | 2 | 3 | 4 => simp only [lhsP, rhsP, opP, unP, Pt.size_two, Pt.size_one]; omega
  | n + 5 => simp only [lhsP, rhsP, opP, unP, oneP, Pt.size_two, Pt.size_one, Pt.size_leaf]; omega
/-- What Normalize hands back for the two sides, both valid. -/
theorem laws_same {p q r : Pt} (hp : PolyPt 3 p) (hq : PolyPt 3 q) (hr : PolyPt 3 r) (i : Nat) (hl : validF (lhsP p q r i) 3 0 = true) (hr2 : validF (rhsP p q r i) 3 0 = true) {a b : PL} (za : NzIs 3 (normF (lhsP p q r i) 3) a) (zb : NzIs 3 (normF (rhsP p q r i) 3) b) :
    (normF (lhsP p q r i) 3).isSome = true ∧ (normF (rhsP p q r i) 3).isSome = true ∧ mns a = mns b := by
  obtain ⟨l, l', h1, h2, h3⟩ := laws_eqv hp hq hr i
  have e1 := valid_norm hl
  have e2 := valid_norm hr2
  rw [h1] at e1
  rw [h2] at e2
  have := same_of za zb (.inr ⟨l, l', e1, e2, h3⟩)
  exact ⟨by rw [e1]; rfl, by rw [e2]; rfl, this.2⟩
/-- A pattern that the code holds as a value. -/
def IsP (w : World) (p : Pt) (v : Value) : Prop := ∃ KA kc, v = pv p KA kc ∧ PtK w (fun _ => True) p KA kc
theorem IsP.upd {w w' : World} {p : Pt} {v : Value} (h : IsP w p v) (u : Upd Non w w') : IsP w' p v := by
  obtain ⟨KA, kc, h1, h2⟩ := h
  exact ⟨KA, kc, h1, PtK.upd u (fun _ _ _ f => f) _ _ _ h2⟩
/-- No kid of a polynomial's pattern is all zero. -/
def NZ (w : World) (k : Nat) : Prop := ∃ o x, w.cell? ⟨k, o, none⟩ = some (.int .i64 x) ∧ x ≠ 0
theorem PolyPt.kid {n : Int} {q : Pt} (h : PolyPt n q) : (q.v ≠ 0 ∨ q.op ≠ 0) ∧ ∀ k ∈ q.kids, PolyPt n k := by
  cases h with
  | var v h1 h2 => exact ⟨.inl (by show v ≠ 0; omega), by simp [Pt.kids]⟩
  | const i hi => exact ⟨.inr (by show (1 : Int) ≠ 0; decide), by simp [Pt.kids]⟩
  | shl a i hi ha =>
    refine ⟨.inr (by show (12 : Int) ≠ 0; decide), fun k hk => ?_⟩
    simp only [Pt.kids, List.mem_cons, List.not_mem_nil, or_false] at hk
    rcases hk with rfl | rfl
    · exact ha
    · exact .const i hi
  | un op a ho ha =>
    refine ⟨.inr (by show op ≠ 0; omega), fun k hk => ?_⟩
    simp only [Pt.kids, List.mem_cons, List.not_mem_nil, or_false] at hk
    subst hk; exact ha
  | bin op a b ho ha hb =>
    refine ⟨.inr (by show op ≠ 0; omega), fun k hk => ?_⟩
    simp only [Pt.kids, List.mem_cons, List.not_mem_nil, or_false] at hk
    rcases hk with rfl | rfl
    · exact ha
    · exact hb
theorem PtK.nz {w : World} {F : Nat → Prop} {n : Int} (p : Pt) : ∀ (KA : Option Addr) (kc : Nat), PolyPt n p → PtK w F p KA kc → PtK w (fun k => F k ∧ NZ w k) p KA kc := by
  induction p using Pt.ind with
  | h p ih =>
    intro KA kc hp h
    have hk := PtK.iff.1 h
    rw [PtK.iff]
    refine ⟨hk.1, ?_⟩
    rcases hk.2 with hk2 | ⟨b, o, e, hF, hL⟩
    · exact .inl hk2
    · by_cases hn : p.kids = []
      · exact .inl hn
      · refine .inr ⟨b, o, e, ⟨hF, ?_⟩, PtL.of fun i hi => ?_⟩
        · have h0 : 0 < p.kids.length := List.length_pos_iff.2 hn
          obtain ⟨KB, kd, c0, c1, _⟩ := hL.at_ h0
          have := (hp.kid.2 _ (List.getElem_mem h0)).kid.1
          rcases this with q | q
          · exact ⟨_, _, c0, q⟩
          · exact ⟨_, _, c1, q⟩
        · obtain ⟨KB, kd, c0, c1, c2, c3, c4, c5⟩ := hL.at_ hi
          exact ⟨KB, kd, c0, c1, c2, c3, c4, ih _ (List.getElem_mem hi) KB kd (hp.kid.2 _ (List.getElem_mem hi)) c5⟩
end Go.Proofs.Ytnefhokojbkppaa
