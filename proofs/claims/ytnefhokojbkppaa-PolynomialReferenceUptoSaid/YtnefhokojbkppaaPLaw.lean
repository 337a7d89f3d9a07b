/-
  PolynomialExamples of chapter 18 returns true.
  Patterns of sums and products, in plain terms: their terms, their validity; equal terms give equal normal forms.
-/
import Derived.Test.YtnefhokojbkppaaPNz
import Derived.Test.YtnefhokojbkppaaSPoly
import Derived.Test.YtnefhokojbkppaaPtV
import Derived.Test.YtnefhokojbkppaaLaw
import Derived.Test.YtnefhokojbkppaaPatL
namespace Go.Proofs.Ytnefhokojbkppaa
open Go.RowKit

def exP : Pt := .mk 0 6 0 0 [.mk 0 4 0 0 [.mk 1 0 0 0 [], .mk 0 1 1 0 []], .mk 0 5 0 0 [.mk 1 0 0 0 [], .mk 0 1 1 0 []]]
def exR : PL := [([0], 18446744073709551615), ([2], 1)]
theorem ex_norm : normF exP 1 = some [([2], 1), ([1], -1), ([1], 1), ([0], -1)] := by decide +kernel
theorem exR_nf : NF 1 exR := ⟨by simp only [exR, List.pairwise_cons]; refine ⟨?_, by simp, by simp⟩; intro a h; simp at h; subst h; decide, by simp [exR]⟩
theorem exR_eqv : Eqv exR [([2], 1), ([1], -1), ([1], 1), ([0], -1)] := by
  intro x
  simp only [coef, exR, List.map_cons, List.map_nil, lsum]
  by_cases h0 : [0] = x
  · subst h0; decide +kernel
  · by_cases h1 : [1] = x
    · subst h1; decide +kernel
    · by_cases h2 : [2] = x
      · subst h2; decide +kernel
      · simp [h0, h1, h2]
theorem mns_len (r : PL) : (mns r).length = r.length := by simp [mns]

set_option maxRecDepth 100000 in
set_option maxHeartbeats 4000000 in
theorem poExamples_c (w : World) : Calls Try.prog 3 #[] w fun e w' => e = .returned (.bool true) ∧ Upd Non w w' := by
  go_enter Try.func3, Try.ntmps3
  go_wp2_with fail
  obtain ⟨W, HW⟩ := nm (((((w.alloc (Obj.cells #[Value.int IntKind.i64 0, Value.int IntKind.i64 1, Value.int IntKind.i64 1, Value.int IntKind.i64 0, Value.slice none 0 0] 24)).alloc
      (Obj.cells #[Value.int IntKind.i64 1, Value.int IntKind.i64 0, Value.int IntKind.i64 0, Value.int IntKind.i64 0, Value.slice none 0 0, Value.int IntKind.i64 0, Value.int IntKind.i64 1, Value.int IntKind.i64 1, Value.int IntKind.i64 0, Value.slice none 0 0] 24)).alloc
      (Obj.cells #[Value.int IntKind.i64 1, Value.int IntKind.i64 0, Value.int IntKind.i64 0, Value.int IntKind.i64 0, Value.slice none 0 0, Value.int IntKind.i64 0, Value.int IntKind.i64 1, Value.int IntKind.i64 1, Value.int IntKind.i64 0, Value.slice none 0 0] 24)).alloc
      (Obj.cells #[Value.int IntKind.i64 0, Value.int IntKind.i64 4, Value.int IntKind.i64 0, Value.int IntKind.i64 0, Value.slice (some { block := w.heap.size + 1, off := 0 }) 2 2, Value.int IntKind.i64 0, Value.int IntKind.i64 5, Value.int IntKind.i64 0, Value.int IntKind.i64 0, Value.slice (some { block := w.heap.size + 1 + 1, off := 0 }) 2 2] 24)).alloc
      (Obj.cells #[Value.int IntKind.i64 0, Value.int IntKind.i64 6, Value.int IntKind.i64 0, Value.int IntKind.i64 0, Value.slice (some { block := w.heap.size + 1 + 1 + 1, off := 0 }) 2 2] 24))
  have hK : PtK W (fun _ => True) exP (some ⟨w.heap.size + 1 + 1 + 1, 0, none⟩) 2 := by
    have b1 : Blk W (w.heap.size + 1) 24 #[Value.int IntKind.i64 1, Value.int IntKind.i64 0, Value.int IntKind.i64 0, Value.int IntKind.i64 0, Value.slice none 0 0, Value.int IntKind.i64 0, Value.int IntKind.i64 1, Value.int IntKind.i64 1, Value.int IntKind.i64 0, Value.slice none 0 0] := by rw [← HW.out]; exact (((Blk.new' (by simp)).alloc _).alloc _).alloc _
    have b2 : Blk W (w.heap.size + 1 + 1) 24 #[Value.int IntKind.i64 1, Value.int IntKind.i64 0, Value.int IntKind.i64 0, Value.int IntKind.i64 0, Value.slice none 0 0, Value.int IntKind.i64 0, Value.int IntKind.i64 1, Value.int IntKind.i64 1, Value.int IntKind.i64 0, Value.slice none 0 0] := by rw [← HW.out]; exact ((Blk.new' (by simp)).alloc _).alloc _
    have b3 : Blk W (w.heap.size + 1 + 1 + 1) 24 #[Value.int IntKind.i64 0, Value.int IntKind.i64 4, Value.int IntKind.i64 0, Value.int IntKind.i64 0, Value.slice (some { block := w.heap.size + 1, off := 0 }) 2 2, Value.int IntKind.i64 0, Value.int IntKind.i64 5, Value.int IntKind.i64 0, Value.int IntKind.i64 0, Value.slice (some { block := w.heap.size + 1 + 1, off := 0 }) 2 2] := by rw [← HW.out]; exact (Blk.new' (by simp)).alloc _
    exact PtK.two (kc := 2) (KA0 := some ⟨w.heap.size + 1, 0, none⟩) (kc0 := 2) (KA1 := some ⟨w.heap.size + 1 + 1, 0, none⟩) (kc1 := 2) (k0 := .mk 0 4 0 0 [.mk 1 0 0 0 [], .mk 0 1 1 0 []]) (k1 := .mk 0 5 0 0 [.mk 1 0 0 0 [], .mk 0 1 1 0 []]) 0 6 0 0 b3
      (PtK.two (kc := 2) (k0 := .mk 1 0 0 0 []) (k1 := .mk 0 1 1 0 []) 0 4 0 0 b1 (PtK.leaf (kc := 0)) (PtK.leaf (kc := 0)) trivial (by decide))
      (PtK.two (kc := 2) (k0 := .mk 1 0 0 0 []) (k1 := .mk 0 1 1 0 []) 0 5 0 0 b2 (PtK.leaf (kc := 0)) (PtK.leaf (kc := 0)) trivial (by decide)) trivial (by decide)
  have hU : Upd Non w W := by rw [← HW.out]; exact ((((Upd.refl.alloc _).alloc _).alloc _).alloc _).alloc _
  have C1 := Lib.hid (pNormalize_c exP W _ _ 2 1 hK (by decide))
  rw [ex_norm] at C1
  unfold pv at C1
  rw [HW.out]
  refine C1.out.mono ?_
  rintro e w2 ⟨⟨r, A, c, rfl, hnf, heq, hv, hc, hl⟩, hu2⟩
  have hr : r = exR := NF.uniq hnf exR_nf (heq.trans exR_eqv.symm)
  subst hr
  have hU2 := hU.then_non hu2
  obtain ⟨W3, HW3⟩ := nm (((w2.alloc (Obj.cells #[Value.int IntKind.i64 0] 3)).alloc (Obj.cells #[Value.int IntKind.i64 2] 3)).alloc
      (Obj.cells #[Value.slice (some ⟨w2.heap.size, 0, none⟩) 1 1, Value.int IntKind.u64 18446744073709551615, Value.slice (some ⟨w2.heap.size + 1, 0, none⟩) 1 1, Value.int IntKind.u64 1] 32))
  have hU3 : Upd Non w2 W3 := by rw [← HW3.out]; exact ((Upd.refl.alloc _).alloc _).alloc _
  have hv3 := hv.upd hU3 (fun _ _ _ f => f)
  have hV : MonsV W3 (fun _ => True) (some ⟨w2.heap.size + 1 + 1, 0, none⟩) [([0], 18446744073709551615), ([2], 1)] := by
    have b0 : Blk W3 w2.heap.size 3 #[Value.int IntKind.i64 0] := by rw [← HW3.out]; exact ((Blk.new _ _ _).alloc _).alloc _
    have b1 : Blk W3 (w2.heap.size + 1) 3 #[Value.int IntKind.i64 2] := by rw [← HW3.out]; exact (Blk.new' (by simp)).alloc _
    have b2 : Blk W3 (w2.heap.size + 1 + 1) 32 #[Value.slice (some ⟨w2.heap.size, 0, none⟩) 1 1, Value.int IntKind.u64 18446744073709551615, Value.slice (some ⟨w2.heap.size + 1, 0, none⟩) 1 1, Value.int IntKind.u64 1] := by rw [← HW3.out]; exact Blk.new' (by simp)
    refine .inr ⟨w2.heap.size + 1 + 1, 0, rfl, trivial, fun i hi => ?_⟩
    have : i = 0 ∨ i = 1 := by simp at hi; omega
    rcases this with rfl | rfl
    · exact ⟨_, _, by rw [b2.cell]; rfl, by rw [b2.cell]; rfl, by simp, Sl.of_blk (F := fun _ => True) trivial b0 1⟩
    · exact ⟨_, _, by rw [b2.cell]; rfl, by rw [b2.cell]; rfl, by simp, Sl.of_blk (F := fun _ => True) trivial b1 1⟩
  have C2 := Lib.hid (samePoly_c W3 _ _ _ _ c 2 _ _ hv3 hV (by simp [mns, exps, exR]) (by decide))
  rw [show decide (mns exR = [([0], 18446744073709551615), ([2], 1)]) = true by decide +kernel, show (mns exR).length = 2 by decide, show ([([0], 18446744073709551615), ([2], 1)] : List Mn).length = 2 by decide] at C2
  rw [show exR.length = 2 by decide]
  go_wp2_with fail
  rw [HW3.out]
  refine C2.out.mono ?_
  rintro e w4 ⟨rfl, hu4⟩
  go_wp2_with fail
  go_ret
  exact ⟨rfl, (hU2.then_non hU3).then_non hu4⟩
end Go.Proofs.Ytnefhokojbkppaa

namespace Go.Proofs.Ytnefhokojbkppaa
open Go.RowKit

theorem PolyPt.wf {n : Nat} {q : Pt} (h : PolyPt n q) : ∃ l, tm n q = some l := by
  induction h with
  | var v h1 h2 => exact ⟨_, by rw [tm_eq, if_pos (show 0 < (Pt.mk v 0 0 0 []).v by show 0 < v; omega)]⟩
  | const i _ => exact ⟨_, by rw [tm_eq]; rfl⟩
  | shl a i _ _ ih =>
    obtain ⟨l, hl⟩ := ih
    exact ⟨scale (2 ^ shF i) l, by rw [tm_eq]; simp only [Pt.v, Pt.op, Pt.kids, List.map_cons, List.getD_cons_zero, hl]; rfl⟩
  | un op a ho _ ih =>
    obtain ⟨l, hl⟩ := ih
    rcases ho with rfl | rfl
    · exact ⟨scale (-1) l, by rw [tm_eq]; simp only [Pt.v, Pt.op, Pt.kids, List.map_cons, List.map_nil, allSome, hl]; rfl⟩
    · exact ⟨(zeroM n, -1) :: scale (-1) l, by rw [tm_eq]; simp only [Pt.v, Pt.op, Pt.kids, List.map_cons, List.map_nil, allSome, hl]; rfl⟩
  | bin op a b ho _ _ iha ihb =>
    obtain ⟨l, hl⟩ := iha
    obtain ⟨m, hm⟩ := ihb
    rcases ho with rfl | rfl | rfl
    · exact ⟨l ++ m, by rw [tm_eq]; simp only [Pt.v, Pt.op, Pt.kids, List.map_cons, List.map_nil, allSome, hl, hm]; rfl⟩
    · exact ⟨l ++ scale (-1) m, by rw [tm_eq]; simp only [Pt.v, Pt.op, Pt.kids, List.map_cons, List.map_nil, allSome, hl, hm]; rfl⟩
    · exact ⟨pairs l m, by rw [tm_eq]; simp only [Pt.v, Pt.op, Pt.kids, List.map_cons, List.map_nil, allSome, hl, hm]; rfl⟩
section
variable {n : Nat} {a b : Pt} {l m : PL}
theorem tm_add (ha : tm n a = some l) (hb : tm n b = some m) : tm n (.mk 0 4 0 0 [a, b]) = some (l ++ m) := by
  rw [tm_eq]; simp only [Pt.v, Pt.op, Pt.kids, List.map_cons, List.map_nil, allSome, ha, hb]; rfl
theorem tm_sub (ha : tm n a = some l) (hb : tm n b = some m) : tm n (.mk 0 5 0 0 [a, b]) = some (l ++ scale (-1) m) := by
  rw [tm_eq]; simp only [Pt.v, Pt.op, Pt.kids, List.map_cons, List.map_nil, allSome, ha, hb]; rfl
theorem tm_mul (ha : tm n a = some l) (hb : tm n b = some m) : tm n (.mk 0 6 0 0 [a, b]) = some (pairs l m) := by
  rw [tm_eq]; simp only [Pt.v, Pt.op, Pt.kids, List.map_cons, List.map_nil, allSome, ha, hb]; rfl
theorem tm_neg (ha : tm n a = some l) : tm n (.mk 0 20 0 0 [a]) = some (scale (-1) l) := by
  rw [tm_eq]; simp only [Pt.v, Pt.op, Pt.kids, List.map_cons, List.map_nil, allSome, ha]; rfl
theorem tm_not (ha : tm n a = some l) : tm n (.mk 0 21 0 0 [a]) = some ((zeroM n, -1) :: scale (-1) l) := by
  rw [tm_eq]; simp only [Pt.v, Pt.op, Pt.kids, List.map_cons, List.map_nil, allSome, ha]; rfl
theorem tm_const (i : Int) : tm n (.mk 0 1 i 0 []) = some [(zeroM n, i)] := by rw [tm_eq]; rfl
theorem tm_shl (ha : tm n a = some l) (i : Int) : tm n (.mk 0 12 0 0 [a, .mk 0 1 i 0 []]) = some (scale (2 ^ shF i) l) := by
  rw [tm_eq]; simp only [Pt.v, Pt.op, Pt.kids, List.map_cons, List.getD_cons_zero, ha]; rfl
end
theorem madd_zero : ∀ {n : Nat} {x : Mon}, x.length = n → madd (zeroM n) x = x
  | 0, [], _ => rfl
  | n + 1, y :: x, h => by
    have := madd_zero (n := n) (x := x) (by simpa using h)
    unfold madd zeroM at this ⊢
    rw [List.replicate_succ, List.zipWith_cons_cons, this, UInt8.zero_add]
  | 0, _ :: _, h => by simp at h
  | _ + 1, [], h => by simp at h
theorem shift_zero {n : Nat} {l : PL} (h : Wd n l) (c : Int) : shiftP (zeroM n) c l = scale c l := by
  unfold shiftP scale
  refine List.map_congr_left fun t ht => ?_
  rw [madd_zero (h t ht)]
theorem pairs_const {n : Nat} {l : PL} (h : Wd n l) (c : Int) : Eqv (pairs l [(zeroM n, c)]) (scale c l) := by
  refine (pairs_comm _ _).trans ?_
  have : pairs [(zeroM n, c)] l = scale c l := by simp [pairs, shift_zero h]
  rw [this]
  exact Eqv.refl
theorem scale_wrap (c : Int) (l : PL) : Eqv (scale (wrap64 c) l) (scale c l) := fun x => by
  rw [coef_scale, coef_scale, Int.mul_emod, show wrap64 c % 18446744073709551616 = c % 18446744073709551616 by unfold wrap64; omega, ← Int.mul_emod]
/-- The result of Normalize, whether it is a polynomial or not. -/
theorem NzRet.uni {n : Nat} {w w' : World} {o : Option PL} {e : Ending} (h : NzRet n w o e w') : ∃ (r : PL) (A : Option Addr) (c : Nat), e = .returned (.tuple #[.slice A (mns r).length c, .bool o.isSome]) ∧ MonsV w' (fun k => w.heap.size ≤ k) A (mns r) ∧
    (mns r).length ≤ 16777216 ∧ (∀ m ∈ mns r, m.1.length ≤ n) ∧ (∀ l, o = some l → NF n r ∧ Eqv r l) ∧ (o = none → r = []) := by
  cases o with
  | none => exact ⟨[], none, 0, h, .nil, by simp [mns], by simp [mns], fun l e => (by cases e), fun _ => rfl⟩
  | some l =>
    obtain ⟨r, A, c, rfl, h1, h2, h3, h4, h5⟩ := h
    refine ⟨r, A, c, by rw [mns_len]; rfl, h3, by rw [mns_len]; exact h5, fun m hm => ?_, fun l' e => ?_, fun e => (by cases e)⟩
    · obtain ⟨t, ht, rfl⟩ := List.mem_map.1 hm
      simp only [exps, List.length_map, (h1.ok t ht).1]
      omega
    · injection e with e; subst e; exact ⟨h1, h2⟩
/-- What is known of the list that Normalize hands back. -/
def NzIs (n : Nat) (o : Option PL) (r : PL) : Prop := (mns r).length ≤ 16777216 ∧ (∀ m ∈ mns r, m.1.length ≤ n) ∧ (∀ l, o = some l → NF n r ∧ Eqv r l) ∧ (o = none → r = [])
theorem normU_c (p : Pt) (w : World) (F : Nat → Prop) (KA : Option Addr) (kc : Nat) (vars : Int) (hp : PtK w F p KA kc) (hs : p.size ≤ 1000000000000) :
    Calls Try.prog 10 #[pv p KA kc, .int .i64 vars] w fun e w' => ∃ (r : PL) (A : Option Addr) (c : Nat), e = .returned (.tuple #[.slice A (mns r).length c, .bool (normF p vars).isSome]) ∧ MonsV w' (fun k => w.heap.size ≤ k) A (mns r) ∧ NzIs vars.toNat (normF p vars) r ∧ Upd Non w w' := by
  refine (pNormalize_c p w F KA kc vars hp hs).mono ?_
  rintro e w' ⟨h, hu⟩
  obtain ⟨r, A, c, h1, h2, h3, h4, h5, h6⟩ := h.uni
  exact ⟨r, A, c, h1, h2, ⟨h3, h4, h5, h6⟩, hu⟩
/-- The same for an operation with two operands. -/
theorem norm2_c (k : Int) (a b : Pt) (w : World) (F : Nat → Prop) (KA : Option Addr) (kc : Nat) (vars : Int) (hp : PtK w F (.mk 0 k 0 0 [a, b]) KA kc) (hs : a.size + b.size ≤ 100000000000) :
    Calls Try.prog 10 #[.agg #[.int .i64 0, .int .i64 k, .int .i64 0, .int .i64 0, .slice KA 2 kc], .int .i64 vars] w fun e w' => ∃ (r : PL) (A : Option Addr) (c : Nat), e = .returned (.tuple #[.slice A (mns r).length c, .bool (normF (.mk 0 k 0 0 [a, b]) vars).isSome]) ∧ MonsV w' (fun k => w.heap.size ≤ k) A (mns r) ∧ NzIs vars.toNat (normF (.mk 0 k 0 0 [a, b]) vars) r ∧ Upd Non w w' :=
  normU_c (.mk 0 k 0 0 [a, b]) w F KA kc vars hp (by rw [Pt.size_two]; omega)
/-- Two such results with equal terms. -/
theorem same_of {n : Nat} {o o' : Option PL} {r r' : PL} (z : NzIs n o r) (z' : NzIs n o' r')
    (h : o = none ∧ o' = none ∨ ∃ l l', o = some l ∧ o' = some l' ∧ Eqv l l') : o.isSome = o'.isSome ∧ mns r = mns r' := by
  obtain ⟨_, _, h1, h2⟩ := z
  obtain ⟨_, _, h1', h2'⟩ := z'
  rcases h with ⟨e, e'⟩ | ⟨l, l', e, e', h⟩
  · rw [h2 e, h2' e', e, e']; exact ⟨rfl, rfl⟩
  · have a := h1 l e
    have b := h1' l' e'
    rw [NF.uniq a.1 b.1 (a.2.trans (h.trans b.2.symm)), e, e']
    exact ⟨rfl, rfl⟩
theorem vPt_const (i s m : Int) (vs : List Int) : vPt (.mk 0 1 i 0 []) s m vs = if s = 0 ∨ s = 1 then (true, vs) else (false, vs) := by
  rw [vPt_op rfl]
  have h : oSortsF 1 = ([], 1, true) := rfl
  simp only [Pt.op, Pt.kids, Pt.imm, Pt.iv, pImmF, h, vKids]
  simp
theorem vPt_bin {op : Int} (ho : 4 ≤ op ∧ op ≤ 19) (a b : Pt) (s m : Int) (vs : List Int) : vPt (.mk 0 op 0 0 [a, b]) s m vs = if s = 0 ∨ s = 1 then vKids [a, b] [1, 1] m vs else (false, vs) := by
  rw [vPt_op rfl]
  have h : oSortsF op = ([1, 1], 1, true) := by unfold oSortsF; (repeat rw [if_neg (by omega)]); rw [if_pos (by omega), if_neg (by omega), if_neg (by omega)]
  have h1 : ¬(op = 23 ∨ op = 28) := by omega
  have h2 : ¬op = 27 := by omega
  simp [Pt.op, Pt.kids, Pt.imm, Pt.iv, pImmF, h, h1, h2]
theorem vPt_un {op : Int} (ho : op = 20 ∨ op = 21) (a : Pt) (s m : Int) (vs : List Int) : vPt (.mk 0 op 0 0 [a]) s m vs = if s = 0 ∨ s = 1 then vKids [a] [1] m vs else (false, vs) := by
  rw [vPt_op rfl]
  have h : oSortsF op = ([1], 1, true) := by unfold oSortsF; (repeat rw [if_neg (by omega)]); rw [if_pos (by omega), if_pos (by omega)]
  have h1 : ¬(op = 23 ∨ op = 28) := by omega
  have h2 : ¬op = 27 := by omega
  simp [Pt.op, Pt.kids, Pt.imm, Pt.iv, pImmF, h, h1, h2]
theorem shF_all : ∀ k : Fin 64, shF ((k.val : Nat) : Int) = k.val := by decide +kernel
theorem shF_of {i : Int} (h0 : 0 ≤ i) (h1 : i < 64) : shF i = i.toNat := by
  have := shF_all ⟨i.toNat, by omega⟩
  rwa [show ((i.toNat : Nat) : Int) = i by omega] at this
/-- A shift by a constant, a multiplication by a constant: both valid or neither. -/
theorem valid_shift (p : Pt) (i j : Int) : validF (.mk 0 12 0 0 [p, .mk 0 1 i 0 []]) 3 0 = validF (.mk 0 6 0 0 [p, .mk 0 1 j 0 []]) 3 0 := by
  unfold validF
  rw [vPt_bin (by omega), vPt_bin (by omega), Pt.size_two, Pt.size_two, Pt.size_leaf, Pt.size_leaf]
  simp only [vKids, vPt_const]
theorem norm_shift (p : Pt) (hp : PolyPt 3 p) (i : Int) (h0 : 0 ≤ i) (h1 : i < 64) :
    (normF (.mk 0 12 0 0 [p, .mk 0 1 i 0 []]) 3 = none ∧ normF (.mk 0 6 0 0 [p, .mk 0 1 (wrap64 (2 ^ i.toNat)) 0 []]) 3 = none) ∨
      ∃ l l', normF (.mk 0 12 0 0 [p, .mk 0 1 i 0 []]) 3 = some l ∧ normF (.mk 0 6 0 0 [p, .mk 0 1 (wrap64 (2 ^ i.toNat)) 0 []]) 3 = some l' ∧ Eqv l l' := by
  unfold normF
  rw [valid_shift p i (wrap64 (2 ^ i.toNat))]
  split
  · obtain ⟨l, hl⟩ := PolyPt.wf (n := 3) hp
    refine .inr ⟨_, _, tm_shl hl i, tm_mul hl (tm_const _), ?_⟩
    have hw := tm_wd 3 p l hl
    have hs := shF_of h0 h1
    refine Eqv.trans ?_ (pairs_const hw _).symm
    rw [hs]
    exact (scale_wrap _ _).symm
  · exact .inl ⟨rfl, rfl⟩
end Go.Proofs.Ytnefhokojbkppaa
