/-
  Patterns of sums and products, in plain terms: their terms, their validity; equal terms give equal normal forms.
-/
import Derived.Test.YtnefhokojbkppaaPatL
import Derived.Test.YtnefhokojbkppaaPEx
namespace Go.Proofs.Ytnefhokojbkppaa
open Go.RowKit

theorem PolyPt.wf {n : Nat} {q : Pt} (h : PolyPt n q) : ∃ l, tm n q = some l := by
  induction h with
  | var v h1 h2 => exact ⟨_, by rw [tm_eq, if_pos (show 0 < (Pt.mk v 0 0 0 []).v by show 0 < v; omega)]⟩
  | const i _ => exact ⟨_, by rw [tm_eq]; rfl⟩
  | shl a i _ _ ih =>
    obtain ⟨l, hl⟩ := ih
    exact ⟨scale (2 ^ shF i) l, by rw [tm_eq]; simp only [Pt.v, Pt.op, Pt.kids, List.map_cons, List.getD_cons_zero, hl]; rfl⟩
  | un op a ho _ ih =>
    obtain ⟨l, hl⟩ := ih
    rcases ho with rfl | rfl
    · exact ⟨scale (-1) l, by rw [tm_eq]; simp only [Pt.v, Pt.op, Pt.kids, List.map_cons, List.map_nil, allSome, hl]; rfl⟩
    · exact ⟨(zeroM n, -1) :: scale (-1) l, by rw [tm_eq]; simp only [Pt.v, Pt.op, Pt.kids, List.map_cons, List.map_nil, allSome, hl]; rfl⟩
  | bin op a b ho _ _ iha ihb =>
    obtain ⟨l, hl⟩ := iha
    obtain ⟨m, hm⟩ := ihb
    rcases ho with rfl | rfl | rfl
    · exact ⟨l ++ m, by rw [tm_eq]; simp only [Pt.v, Pt.op, Pt.kids, List.map_cons, List.map_nil, allSome, hl, hm]; rfl⟩
    · exact ⟨l ++ scale (-1) m, by rw [tm_eq]; simp only [Pt.v, Pt.op, Pt.kids, List.map_cons, List.map_nil, allSome, hl, hm]; rfl⟩
    · exact ⟨pairs l m, by rw [tm_eq]; simp only [Pt.v, Pt.op, Pt.kids, List.map_cons, List.map_nil, allSome, hl, hm]; rfl⟩
section
variable {n : Nat} {a b : Pt} {l m : PL}
theorem tm_add (ha : tm n a = some l) (hb : tm n b = some m) : tm n (.mk 0 4 0 0 [a, b]) = some (l ++ m) := by
  rw [tm_eq]; simp only [Pt.v, Pt.op, Pt.kids, List.map_cons, List.map_nil, allSome, ha, hb]; rfl
theorem tm_sub (ha : tm n a = some l) (hb : tm n b = some m) : tm n (.mk 0 5 0 0 [a, b]) = some (l ++ scale (-1) m) := by
  rw [tm_eq]; simp only [Pt.v, Pt.op, Pt.kids, List.map_cons, List.map_nil, allSome, ha, hb]; rfl
theorem tm_mul (ha : tm n a = some l) (hb : tm n b = some m) : tm n (.mk 0 6 0 0 [a, b]) = some (pairs l m) := by
  rw [tm_eq]; simp only [Pt.v, Pt.op, Pt.kids, List.map_cons, List.map_nil, allSome, ha, hb]; rfl
theorem tm_neg (ha : tm n a = some l) : tm n (.mk 0 20 0 0 [a]) = some (scale (-1) l) := by
  rw [tm_eq]; simp only [Pt.v, Pt.op, Pt.kids, List.map_cons, List.map_nil, allSome, ha]; rfl
theorem tm_not (ha : tm n a = some l) : tm n (.mk 0 21 0 0 [a]) = some ((zeroM n, -1) :: scale (-1) l) := by
  rw [tm_eq]; simp only [Pt.v, Pt.op, Pt.kids, List.map_cons, List.map_nil, allSome, ha]; rfl
theorem tm_const (i : Int) : tm n (.mk 0 1 i 0 []) = some [(zeroM n, i)] := by rw [tm_eq]; rfl
theorem tm_shl (ha : tm n a = some l) (i : Int) : tm n (.mk 0 12 0 0 [a, .mk 0 1 i 0 []]) = some (scale (2 ^ shF i) l) := by
  rw [tm_eq]; simp only [Pt.v, Pt.op, Pt.kids, List.map_cons, List.getD_cons_zero, ha]; rfl
end
theorem madd_zero : ∀ {n : Nat} {x : Mon}, x.length = n → madd (zeroM n) x = x
  | 0, [], _ => rfl
  | n + 1, y :: x, h => by
    have := madd_zero (n := n) (x := x) (by simpa using h)
    unfold madd zeroM at this ⊢
    rw [List.replicate_succ, List.zipWith_cons_cons, this, UInt8.zero_add]
  | 0, _ :: _, h => by simp at h
  | _ + 1, [], h => by simp at h
theorem shift_zero {n : Nat} {l : PL} (h : Wd n l) (c : Int) : shiftP (zeroM n) c l = scale c l := by
  unfold shiftP scale
  refine List.map_congr_left fun t ht => ?_
  rw [madd_zero (h t ht)]
theorem pairs_const {n : Nat} {l : PL} (h : Wd n l) (c : Int) : Eqv (pairs l [(zeroM n, c)]) (scale c l) := by
  refine (pairs_comm _ _).trans ?_
  have : pairs [(zeroM n, c)] l = scale c l := by simp [pairs, shift_zero h]
  rw [this]
  exact Eqv.refl
theorem scale_wrap (c : Int) (l : PL) : Eqv (scale (wrap64 c) l) (scale c l) := fun x => by
  rw [coef_scale, coef_scale, Int.mul_emod, show wrap64 c % 18446744073709551616 = c % 18446744073709551616 by unfold wrap64; omega, ← Int.mul_emod]
/-- The result of Normalize, whether it is a polynomial or not. -/
theorem NzRet.uni {n : Nat} {w w' : World} {o : Option PL} {e : Ending} (h : NzRet n w o e w') : ∃ (r : PL) (A : Option Addr) (c : Nat), e = .returned (.tuple #[.slice A (mns r).length c, .bool o.isSome]) ∧ MonsV w' (fun k => w.heap.size ≤ k) A (mns r) ∧
    (mns r).length ≤ 16777216 ∧ (∀ m ∈ mns r, m.1.length ≤ n) ∧ (∀ l, o = some l → NF n r ∧ Eqv r l) ∧ (o = none → r = []) := by
  cases o with
  | none => exact ⟨[], none, 0, h, .nil, by simp [mns], by simp [mns], fun l e => (by cases e), fun _ => rfl⟩
  | some l =>
    obtain ⟨r, A, c, rfl, h1, h2, h3, h4, h5⟩ := h
    refine ⟨r, A, c, by rw [mns_len]; rfl, h3, by rw [mns_len]; exact h5, fun m hm => ?_, fun l' e => ?_, fun e => (by cases e)⟩
    · obtain ⟨t, ht, rfl⟩ := List.mem_map.1 hm
      simp only [exps, List.length_map, (h1.ok t ht).1]
      omega
    · injection e with e; subst e; exact ⟨h1, h2⟩
/-- What is known of the list that Normalize hands back. -/
def NzIs (n : Nat) (o : Option PL) (r : PL) : Prop := (mns r).length ≤ 16777216 ∧ (∀ m ∈ mns r, m.1.length ≤ n) ∧ (∀ l, o = some l → NF n r ∧ Eqv r l) ∧ (o = none → r = [])
theorem normU_c (p : Pt) (w : World) (F : Nat → Prop) (KA : Option Addr) (kc : Nat) (vars : Int) (hp : PtK w F p KA kc) (hs : p.size ≤ 1000000000000) :
    Calls Try.prog 10 #[pv p KA kc, .int .i64 vars] w fun e w' => ∃ (r : PL) (A : Option Addr) (c : Nat), e = .returned (.tuple #[.slice A (mns r).length c, .bool (normF p vars).isSome]) ∧ MonsV w' (fun k => w.heap.size ≤ k) A (mns r) ∧ NzIs vars.toNat (normF p vars) r ∧ Upd Non w w' := by
  refine (pNormalize_c p w F KA kc vars hp hs).mono ?_
  rintro e w' ⟨h, hu⟩
  obtain ⟨r, A, c, h1, h2, h3, h4, h5, h6⟩ := h.uni
  exact ⟨r, A, c, h1, h2, ⟨h3, h4, h5, h6⟩, hu⟩
/-- The same for an operation with two operands. -/
theorem norm2_c (k : Int) (a b : Pt) (w : World) (F : Nat → Prop) (KA : Option Addr) (kc : Nat) (vars : Int) (hp : PtK w F (.mk 0 k 0 0 [a, b]) KA kc) (hs : a.size + b.size ≤ 100000000000) :
    Calls Try.prog 10 #[.agg #[.int .i64 0, .int .i64 k, .int .i64 0, .int .i64 0, .slice KA 2 kc], .int .i64 vars] w fun e w' => ∃ (r : PL) (A : Option Addr) (c : Nat), e = .returned (.tuple #[.slice A (mns r).length c, .bool (normF (.mk 0 k 0 0 [a, b]) vars).isSome]) ∧ MonsV w' (fun k => w.heap.size ≤ k) A (mns r) ∧ NzIs vars.toNat (normF (.mk 0 k 0 0 [a, b]) vars) r ∧ Upd Non w w' :=
  normU_c (.mk 0 k 0 0 [a, b]) w F KA kc vars hp (by rw [Pt.size_two]; omega)
/-- Two such results with equal terms. -/
theorem same_of {n : Nat} {o o' : Option PL} {r r' : PL} (z : NzIs n o r) (z' : NzIs n o' r')
    (h : o = none ∧ o' = none ∨ ∃ l l', o = some l ∧ o' = some l' ∧ Eqv l l') : o.isSome = o'.isSome ∧ mns r = mns r' := by
  obtain ⟨_, _, h1, h2⟩ := z
  obtain ⟨_, _, h1', h2'⟩ := z'
  rcases h with ⟨e, e'⟩ | ⟨l, l', e, e', h⟩
  · rw [h2 e, h2' e', e, e']; exact ⟨rfl, rfl⟩
  · have a := h1 l e
    have b := h1' l' e'
    rw [NF.uniq a.1 b.1 (a.2.trans (h.trans b.2.symm)), e, e']
    exact ⟨rfl, rfl⟩
theorem vPt_const (i s m : Int) (vs : List Int) : vPt (.mk 0 1 i 0 []) s m vs = if s = 0 ∨ s = 1 then (true, vs) else (false, vs) := by
  rw [vPt_op rfl]
  have h : oSortsF 1 = ([], 1, true) := rfl
  simp only [Pt.op, Pt.kids, Pt.imm, Pt.iv, pImmF, h, vKids]
  simp
theorem vPt_bin {op : Int} (ho : 4 ≤ op ∧ op ≤ 19) (a b : Pt) (s m : Int) (vs : List Int) : vPt (.mk 0 op 0 0 [a, b]) s m vs = if s = 0 ∨ s = 1 then vKids [a, b] [1, 1] m vs else (false, vs) := by
  rw [vPt_op rfl]
  have h : oSortsF op = ([1, 1], 1, true) := by unfold oSortsF; (repeat rw [if_neg (by omega)]); rw [if_pos (by omega), if_neg (by omega), if_neg (by omega)]
  have h1 : ¬(op = 23 ∨ op = 28) := by omega
  have h2 : ¬op = 27 := by omega
  simp [Pt.op, Pt.kids, Pt.imm, Pt.iv, pImmF, h, h1, h2]
theorem vPt_un {op : Int} (ho : op = 20 ∨ op = 21) (a : Pt) (s m : Int) (vs : List Int) : vPt (.mk 0 op 0 0 [a]) s m vs = if s = 0 ∨ s = 1 then vKids [a] [1] m vs else (false, vs) := by
  rw [vPt_op rfl]
  have h : oSortsF op = ([1], 1, true) := by unfold oSortsF; (repeat rw [if_neg (by omega)]); rw [if_pos (by omega), if_pos (by omega)]
  have h1 : ¬(op = 23 ∨ op = 28) := by omega
  have h2 : ¬op = 27 := by omega
  simp [Pt.op, Pt.kids, Pt.imm, Pt.iv, pImmF, h, h1, h2]
theorem shF_all : ∀ k : Fin 64, shF ((k.val : Nat) : Int) = k.val := by decide +kernel
theorem shF_of {i : Int} (h0 : 0 ≤ i) (h1 : i < 64) : shF i = i.toNat := by
  have := shF_all ⟨i.toNat, by omega⟩
  rwa [show ((i.toNat : Nat) : Int) = i by omega] at this
/-- A shift by a constant, a multiplication by a constant: both valid or neither. -/
theorem valid_shift (p : Pt) (i j : Int) : validF (.mk 0 12 0 0 [p, .mk 0 1 i 0 []]) 3 0 = validF (.mk 0 6 0 0 [p, .mk 0 1 j 0 []]) 3 0 := by
  unfold validF
  rw [vPt_bin (by omega), vPt_bin (by omega), Pt.size_two, Pt.size_two, Pt.size_leaf, Pt.size_leaf]
  simp only [vKids, vPt_const]
theorem norm_shift (p : Pt) (hp : PolyPt 3 p) (i : Int) (h0 : 0 ≤ i) (h1 : i < 64) :
    (normF (.mk 0 12 0 0 [p, .mk 0 1 i 0 []]) 3 = none ∧ normF (.mk 0 6 0 0 [p, .mk 0 1 (wrap64 (2 ^ i.toNat)) 0 []]) 3 = none) ∨
      ∃ l l', normF (.mk 0 12 0 0 [p, .mk 0 1 i 0 []]) 3 = some l ∧ normF (.mk 0 6 0 0 [p, .mk 0 1 (wrap64 (2 ^ i.toNat)) 0 []]) 3 = some l' ∧ Eqv l l' := by
  unfold normF
  rw [valid_shift p i (wrap64 (2 ^ i.toNat))]
  split
  · obtain ⟨l, hl⟩ := PolyPt.wf (n := 3) hp
    refine .inr ⟨_, _, tm_shl hl i, tm_mul hl (tm_const _), ?_⟩
    have hw := tm_wd 3 p l hl
    have hs := shF_of h0 h1
    refine Eqv.trans ?_ (pairs_const hw _).symm
    rw [hs]
    exact (scale_wrap _ _).symm
  · exact .inl ⟨rfl, rfl⟩
end Go.Proofs.Ytnefhokojbkppaa
