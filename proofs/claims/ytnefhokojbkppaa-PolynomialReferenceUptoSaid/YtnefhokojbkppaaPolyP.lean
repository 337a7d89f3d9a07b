/-
  Polynomials as lists of terms, in plain terms: their coefficients, sums and products. No condition of its own.
-/
import Derived.Test.YtnefhokojbkppaaPtV
import Derived.Test.YtnefhokojbkppaaPVal2
import Derived.Test.YtnefhokojbkppaaBin
namespace Go.Proofs.Ytnefhokojbkppaa
open Go.RowKit

/-- The sum of a list. -/
def lsum : List Int → Int
  | [] => 0
  | x :: l => x + lsum l
theorem lsum_append : ∀ (a b : List Int), lsum (a ++ b) = lsum a + lsum b
  | [], b => by simp [lsum]
  | x :: a, b => by simp [lsum, lsum_append a b]; omega
theorem lsum_add {α : Type} (f g : α → Int) : ∀ (l : List α), lsum (l.map fun t => f t + g t) = lsum (l.map f) + lsum (l.map g)
  | [] => rfl
  | x :: l => by simp only [List.map_cons, lsum, lsum_add f g l]; omega
theorem lsum_mul {α : Type} (c : Int) (f : α → Int) : ∀ (l : List α), lsum (l.map fun t => c * f t) = c * lsum (l.map f)
  | [] => by simp [lsum]
  | x :: l => by simp only [List.map_cons, lsum, lsum_mul c f l, Int.mul_add]
theorem lsum_zero {α : Type} (f : α → Int) : ∀ (l : List α), (∀ t ∈ l, f t = 0) → lsum (l.map f) = 0
  | [], _ => rfl
  | x :: l, h => by simp only [List.map_cons, lsum, lsum_zero f l (fun t ht => h t (by simp [ht])), h x (by simp)]; rfl
theorem lsum_congr {α : Type} {f g : α → Int} : ∀ {l : List α}, (∀ t ∈ l, f t = g t) → lsum (l.map f) = lsum (l.map g)
  | [], _ => rfl
  | x :: l, h => by simp only [List.map_cons, lsum, lsum_congr (l := l) (fun t ht => h t (by simp [ht])), h x (by simp)]
theorem lsum_swap {α β : Type} (f : α → β → Int) (a : List α) : ∀ (b : List β), lsum (a.map fun s => lsum (b.map (f s))) = lsum (b.map fun t => lsum (a.map fun s => f s t))
  | [] => by simp only [List.map_nil, lsum]; exact lsum_zero _ _ fun _ _ => rfl
  | y :: b => by simp only [List.map_cons, lsum, ← lsum_swap f a b]; rw [← lsum_add]
theorem lsum_flat {α β : Type} (f : β → Int) (g : α → List β) : ∀ (l : List α), lsum ((l.flatMap g).map f) = lsum (l.map fun t => lsum ((g t).map f))
  | [] => rfl
  | x :: l => by simp only [List.flatMap_cons, List.map_append, lsum_append, List.map_cons, lsum, lsum_flat f g l]
theorem lsum_mod {α : Type} {f g : α → Int} {M : Int} : ∀ {l : List α}, (∀ t ∈ l, f t % M = g t % M) → lsum (l.map f) % M = lsum (l.map g) % M
  | [], _ => rfl
  | x :: l, h => by simp only [List.map_cons, lsum]; rw [Int.add_emod, h x (by simp), lsum_mod (l := l) (fun t ht => h t (by simp [ht])), ← Int.add_emod]

abbrev Mon := List UInt8
abbrev PL := List (Mon × Int)
/-- The coefficient of a monomial. -/
def coef (l : PL) (x : Mon) : Int := lsum (l.map fun t => if t.1 = x then t.2 else 0)
def scale (a : Int) (l : PL) : PL := l.map fun t => (t.1, a * t.2)
def madd (a b : Mon) : Mon := List.zipWith (· + ·) a b
def msub (a b : Mon) : Mon := List.zipWith (· - ·) a b
def shiftP (j : Mon) (c : Int) (l : PL) : PL := l.map fun t => (madd j t.1, c * t.2)
def pairs (a b : PL) : PL := a.flatMap fun s => shiftP s.1 s.2 b
/-- Two sums with the same coefficients modulo 2^64. -/
def Eqv (a b : PL) : Prop := ∀ x, coef a x % 18446744073709551616 = coef b x % 18446744073709551616
def Wd (n : Nat) (l : PL) : Prop := ∀ t ∈ l, t.1.length = n
theorem Eqv.refl {a : PL} : Eqv a a := fun _ => rfl
theorem Eqv.symm {a b : PL} (h : Eqv a b) : Eqv b a := fun x => (h x).symm
theorem Eqv.trans {a b c : PL} (h : Eqv a b) (g : Eqv b c) : Eqv a c := fun x => (h x).trans (g x)
theorem Eqv.of {a b : PL} (h : ∀ x, coef a x = coef b x) : Eqv a b := fun x => by rw [h x]
theorem coef_nil (x : Mon) : coef [] x = 0 := rfl
theorem coef_append (a b : PL) (x : Mon) : coef (a ++ b) x = coef a x + coef b x := by simp only [coef, List.map_append, lsum_append]
theorem coef_one (k : Mon) (c : Int) (x : Mon) : coef [(k, c)] x = if k = x then c else 0 := by simp [coef, lsum]
theorem coef_scale (a : Int) (l : PL) (x : Mon) : coef (scale a l) x = a * coef l x := by
  unfold coef scale
  rw [← lsum_mul, List.map_map]
  refine lsum_congr fun t _ => ?_
  simp only [Function.comp]
  split <;> simp
theorem Eqv.append {a a' b b' : PL} (h : Eqv a a') (g : Eqv b b') : Eqv (a ++ b) (a' ++ b') := fun x => by
  rw [coef_append, coef_append, Int.add_emod, h x, g x, ← Int.add_emod]
theorem Eqv.scale {b b' : PL} (c : Int) (h : Eqv b b') : Eqv (scale c b) (scale c b') := fun x => by
  rw [coef_scale, coef_scale, Int.mul_emod, h x, ← Int.mul_emod]
theorem Eqv.comm (a b : PL) : Eqv (a ++ b) (b ++ a) := Eqv.of fun x => by rw [coef_append, coef_append]; omega
theorem madd_comm (a b : Mon) : madd a b = madd b a := by
  unfold madd
  rw [List.zipWith_comm]
  congr 1
  funext x y
  exact UInt8.add_comm _ _
theorem madd_assoc : ∀ (a b c : Mon), madd (madd a b) c = madd a (madd b c)
  | [], _, _ => by simp [madd]
  | _ :: _, [], _ => by simp [madd]
  | _ :: _, _ :: _, [] => by simp [madd]
  | x :: a, y :: b, z :: c => by
    have := madd_assoc a b c
    simp only [madd, List.zipWith_cons_cons] at this ⊢
    rw [this, UInt8.add_assoc]
theorem madd_len {a b : Mon} {n : Nat} (ha : a.length = n) (hb : b.length = n) : (madd a b).length = n := by simp [madd, ha, hb]
theorem madd_eq : ∀ {j k x : Mon}, j.length = x.length → k.length = x.length → (madd j k = x ↔ k = msub x j)
  | [], k, x, h1, h2 => by
    have hx : x = [] := List.length_eq_zero_iff.1 h1.symm
    subst hx
    have hk : k = [] := List.length_eq_zero_iff.1 h2
    subst hk
    simp [madd, msub]
  | a :: j, [], x, h1, h2 => by rw [← h2] at h1; simp at h1
  | a :: j, b :: k, [], h1, h2 => by simp at h1
  | a :: j, b :: k, c :: x, h1, h2 => by
    have ih := madd_eq (j := j) (k := k) (x := x) (by simpa using h1) (by simpa using h2)
    unfold madd msub at ih ⊢
    simp only [List.zipWith_cons_cons, List.cons.injEq, ih]
    have : a + b = c ↔ b = c - a := by
      constructor
      · rintro rfl
        rw [UInt8.add_comm, UInt8.add_sub_cancel]
      · rintro rfl
        rw [UInt8.add_comm, UInt8.sub_add_cancel]
    rw [this]
theorem coef_shift {n : Nat} {j : Mon} {l : PL} (hj : j.length = n) (hl : Wd n l) (c : Int) {x : Mon} (hx : x.length = n) : coef (shiftP j c l) x = c * coef l (msub x j) := by
  unfold coef shiftP
  rw [← lsum_mul, List.map_map]
  refine lsum_congr fun t ht => ?_
  have e := madd_eq (j := j) (k := t.1) (x := x) (by omega) (by rw [hl t ht, hx])
  simp only [Function.comp]
  by_cases q : madd j t.1 = x
  · rw [if_pos q, if_pos (e.1 q)]
  · rw [if_neg q, if_neg (fun r => q (e.2 r))]; simp
theorem Wd.shift {n : Nat} {j : Mon} {l : PL} (hj : j.length = n) (hl : Wd n l) (c : Int) : Wd n (shiftP j c l) := fun t ht => by
  obtain ⟨y, hy, rfl⟩ := List.mem_map.1 ht
  exact madd_len hj (hl y hy)
theorem Wd.append {n : Nat} {a b : PL} (h : Wd n a) (g : Wd n b) : Wd n (a ++ b) := fun t ht => (List.mem_append.1 ht).elim (h t) (g t)
theorem Wd.scale {n : Nat} {a : PL} (h : Wd n a) (c : Int) : Wd n (scale c a) := fun t ht => by
  obtain ⟨y, hy, rfl⟩ := List.mem_map.1 ht
  exact h y hy
theorem Wd.pairs {n : Nat} {a b : PL} (h : Wd n a) (g : Wd n b) : Wd n (pairs a b) := fun t ht => by
  obtain ⟨y, hy, ht⟩ := List.mem_flatMap.1 ht
  exact Wd.shift (h y hy) g _ t ht
theorem coef_wide {n : Nat} {l : PL} (h : Wd n l) {x : Mon} (hx : x.length ≠ n) : coef l x = 0 := lsum_zero _ _ fun t ht => if_neg fun q => hx (by rw [← q]; exact h t ht)
theorem Eqv.shift {n : Nat} {j : Mon} {l l' : PL} (hj : j.length = n) (hl : Wd n l) (hl' : Wd n l') (c : Int) (h : Eqv l l') : Eqv (shiftP j c l) (shiftP j c l') := fun x => by
  by_cases hx : x.length = n
  · rw [coef_shift hj hl c hx, coef_shift hj hl' c hx, Int.mul_emod, h, ← Int.mul_emod]
  · rw [coef_wide (hl.shift hj c) hx, coef_wide (hl'.shift hj c) hx]
theorem coef_pairs (a b : PL) (x : Mon) : coef (pairs a b) x = lsum (a.map fun s => lsum (b.map fun t => if madd s.1 t.1 = x then s.2 * t.2 else 0)) := by
  unfold coef pairs
  rw [lsum_flat]
  refine lsum_congr fun s _ => ?_
  unfold shiftP
  rw [List.map_map]
  rfl
theorem coef_flat (a b : PL) (x : Mon) : coef (pairs a b) x = lsum (a.map fun s => coef (shiftP s.1 s.2 b) x) := by
  unfold coef pairs
  rw [lsum_flat]
theorem pairs_comm (a b : PL) : Eqv (pairs a b) (pairs b a) := Eqv.of fun x => by
  rw [coef_pairs, coef_pairs, lsum_swap]
  refine lsum_congr fun t _ => lsum_congr fun s _ => ?_
  rw [madd_comm, Int.mul_comm]
theorem Eqv.pairsR {n : Nat} {a b b' : PL} (ha : Wd n a) (hb : Wd n b) (hb' : Wd n b') (h : Eqv b b') : Eqv (pairs a b) (pairs a b') := fun x => by
  rw [coef_flat, coef_flat]
  exact lsum_mod fun s hs => Eqv.shift (ha s hs) hb hb' s.2 h x
theorem Eqv.pairs {n : Nat} {a a' b b' : PL} (ha : Wd n a) (ha' : Wd n a') (hb : Wd n b) (hb' : Wd n b') (h : Eqv a a') (g : Eqv b b') : Eqv (pairs a b) (pairs a' b') :=
  (Eqv.pairsR ha hb hb' g).trans ((pairs_comm a b').trans ((Eqv.pairsR hb' ha ha' h).trans (pairs_comm b' a')))
theorem pairs_append (a b c : PL) : Eqv (pairs a (b ++ c)) (pairs a b ++ pairs a c) := Eqv.of fun x => by
  rw [coef_append, coef_pairs, coef_pairs, coef_pairs, ← lsum_add]
  refine lsum_congr fun s _ => ?_
  rw [List.map_append, lsum_append]
theorem pairs_assoc (a b c : PL) : Eqv (pairs (pairs a b) c) (pairs a (pairs b c)) := Eqv.of fun x => by
  rw [coef_pairs, coef_pairs]
  unfold pairs
  rw [lsum_flat]
  refine lsum_congr fun s _ => ?_
  rw [lsum_flat]
  unfold shiftP
  rw [List.map_map]
  refine lsum_congr fun t _ => ?_
  rw [List.map_map]
  refine lsum_congr fun u _ => ?_
  simp only [Function.comp]
  rw [madd_assoc, Int.mul_assoc]
theorem pairs_snoc (a : PL) (s : Mon × Int) (b : PL) : pairs (a ++ [s]) b = pairs a b ++ shiftP s.1 s.2 b := by simp [pairs, List.flatMap_append]

/-- The monomials of a are among those of b. -/
def SubM (a b : PL) : Prop := ∀ t ∈ a, ∃ s ∈ b, s.1 = t.1
def Sim (a b : PL) : Prop := Eqv a b ∧ SubM a b
theorem SubM.refl {a : PL} : SubM a a := fun t ht => ⟨t, ht, rfl⟩
theorem SubM.append {a a' b b' : PL} (h : SubM a a') (g : SubM b b') : SubM (a ++ b) (a' ++ b') := fun t ht => by
  rcases List.mem_append.1 ht with ht | ht
  · obtain ⟨s, hs, e⟩ := h t ht; exact ⟨s, List.mem_append_left _ hs, e⟩
  · obtain ⟨s, hs, e⟩ := g t ht; exact ⟨s, List.mem_append_right _ hs, e⟩
theorem SubM.scale2 {a b : PL} (c d : Int) (h : SubM a b) : SubM (Go.Proofs.Ytnefhokojbkppaa.scale c a) (Go.Proofs.Ytnefhokojbkppaa.scale d b) := fun t ht => by
  obtain ⟨x, hx, rfl⟩ := List.mem_map.1 ht
  obtain ⟨s, hs, e⟩ := h x hx
  exact ⟨(s.1, d * s.2), List.mem_map.2 ⟨s, hs, rfl⟩, e⟩
theorem SubM.shift {j : Mon} {a b : PL} (c : Int) (h : SubM a b) : SubM (shiftP j c a) (shiftP j c b) := fun t ht => by
  obtain ⟨x, hx, rfl⟩ := List.mem_map.1 ht
  obtain ⟨s, hs, e⟩ := h x hx
  exact ⟨(madd j s.1, c * s.2), List.mem_map.2 ⟨s, hs, rfl⟩, by simp only [e]⟩
theorem SubM.pairs {a a' b b' : PL} (h : SubM a a') (g : SubM b b') : SubM (pairs a b) (pairs a' b') := fun t ht => by
  obtain ⟨x, hx, ht⟩ := List.mem_flatMap.1 ht
  obtain ⟨y, hy, rfl⟩ := List.mem_map.1 ht
  obtain ⟨x', hx', e1⟩ := h x hx
  obtain ⟨y', hy', e2⟩ := g y hy
  exact ⟨(madd x'.1 y'.1, x'.2 * y'.2), List.mem_flatMap.2 ⟨x', hx', List.mem_map.2 ⟨y', hy', rfl⟩⟩, by simp only [e1, e2]⟩
theorem Sim.refl {a : PL} : Sim a a := ⟨Eqv.refl, SubM.refl⟩
theorem Sim.append {a a' b b' : PL} (h : Sim a a') (g : Sim b b') : Sim (a ++ b) (a' ++ b') := ⟨h.1.append g.1, h.2.append g.2⟩
theorem Sim.scale {a b : PL} (c : Int) (h : Sim a b) : Sim (Go.Proofs.Ytnefhokojbkppaa.scale c a) (Go.Proofs.Ytnefhokojbkppaa.scale c b) := ⟨h.1.scale c, h.2.scale2 c c⟩
theorem Sim.shift {n : Nat} {j : Mon} {l l' : PL} (hj : j.length = n) (hl : Wd n l) (hl' : Wd n l') (c : Int) (h : Sim l l') : Sim (shiftP j c l) (shiftP j c l') := ⟨Eqv.shift hj hl hl' c h.1, h.2.shift c⟩
theorem Sim.pairs {n : Nat} {a a' b b' : PL} (ha : Wd n a) (ha' : Wd n a') (hb : Wd n b) (hb' : Wd n b') (h : Sim a a') (g : Sim b b') : Sim (pairs a b) (pairs a' b') := ⟨Eqv.pairs ha ha' hb hb' h.1 g.1, h.2.pairs g.2⟩

def zeroM (n : Nat) : Mon := List.replicate n 0
def unitM (n k : Nat) : Mon := (List.replicate n 0).set k 1
/-- The terms of a sum of operands, by operation; none where it is no polynomial. -/
def combine (n : Nat) (op : Int) (l : List PL) : Option PL :=
  if op = 4 then some (l.getD 0 [] ++ l.getD 1 [])
  else if op = 5 then some (l.getD 0 [] ++ scale (-1) (l.getD 1 []))
  else if op = 6 then some (pairs (l.getD 0 []) (l.getD 1 []))
  else if op = 20 then some (scale (-1) (l.getD 0 []))
  else if op = 21 then some ((zeroM n, -1) :: scale (-1) (l.getD 0 []))
  else none
def allSome : List (Option PL) → Option (List PL)
  | [] => some []
  | none :: _ => none
  | some x :: l => match allSome l with
    | none => none
    | some r => some (x :: r)
mutual
/-- The terms of a pattern with n variables; none where it is no polynomial. -/
def tm (n : Nat) : Pt → Option PL
  | .mk v op imm _ kids =>
    if 0 < v then some [(unitM n (v - 1).toNat, 1)]
    else if op = 1 then some [(zeroM n, imm)]
    else if op = 12 then
      match (tmL n kids).getD 0 none with
      | none => none
      | some l => if (kids.map (·.op)).getD 1 0 = 1 then some (scale (2 ^ shF ((kids.map (·.imm)).getD 1 0)) l) else none
    else match allSome (tmL n kids) with
      | none => none
      | some l => combine n op l
def tmL (n : Nat) : List Pt → List (Option PL)
  | [] => []
  | k :: ks => tm n k :: tmL n ks
end
theorem tmL_eq (n : Nat) : ∀ l : List Pt, tmL n l = l.map (tm n)
  | [] => by simp only [tmL, List.map_nil]
  | k :: ks => by simp only [tmL, tmL_eq n ks, List.map_cons]
theorem tm_eq (n : Nat) (p : Pt) : tm n p = if 0 < p.v then some [(unitM n (p.v - 1).toNat, 1)]
    else if p.op = 1 then some [(zeroM n, p.imm)]
    else if p.op = 12 then
      match (p.kids.map (tm n)).getD 0 none with
      | none => none
      | some l => if (p.kids.map (·.op)).getD 1 0 = 1 then some (scale (2 ^ shF ((p.kids.map (·.imm)).getD 1 0)) l) else none
    else match allSome (p.kids.map (tm n)) with
      | none => none
      | some l => combine n p.op l := by
  obtain ⟨v, op, imm, iv, kids⟩ := p
  rw [tm, tmL_eq]
  rfl
theorem allSome_snoc : ∀ (l : List (Option PL)) (x : Option PL), allSome (l ++ [x]) = match allSome l, x with | some r, some y => some (r ++ [y]) | _, _ => none
  | [], none => rfl
  | [], some _ => rfl
  | none :: l, x => by simp only [List.cons_append, allSome]
  | some a :: l, x => by
    simp only [List.cons_append, allSome, allSome_snoc l x]
    cases allSome l <;> cases x <;> rfl
theorem allSome_none : ∀ {l : List (Option PL)}, none ∈ l → allSome l = none
  | none :: l, _ => rfl
  | some a :: l, h => by
    have := allSome_none (l := l) (by simpa using h)
    simp only [allSome, this]
theorem allSome_len : ∀ {l : List (Option PL)} {r : List PL}, allSome l = some r → l = r.map some
  | [], r, h => by simp only [allSome, Option.some.injEq] at h; subst h; rfl
  | none :: l, r, h => by simp [allSome] at h
  | some a :: l, r, h => by
    simp only [allSome] at h
    split at h
    · cases h
    · rename_i q hq
      injection h with h
      subst h
      rw [allSome_len hq]
      rfl
mutual
/-- The shape of a valid pattern: its variables are among the first n, its operands are as many as the operation takes. -/
def WfP (n : Nat) : Pt → Prop
  | .mk v op _ _ kids => 0 ≤ v ∧ v ≤ n ∧ (v = 0 → kids.length = (oSortsF op).1.length) ∧ WfL n kids
def WfL (n : Nat) : List Pt → Prop
  | [] => True
  | k :: ks => WfP n k ∧ WfL n ks
end
theorem WfL.iff (n : Nat) : ∀ l : List Pt, WfL n l ↔ ∀ k ∈ l, WfP n k
  | [] => by simp [WfL]
  | k :: ks => by simp [WfL, WfL.iff n ks]
theorem WfP.iff (n : Nat) (p : Pt) : WfP n p ↔ 0 ≤ p.v ∧ p.v ≤ n ∧ (p.v = 0 → p.kids.length = (oSortsF p.op).1.length) ∧ ∀ k ∈ p.kids, WfP n k := by
  obtain ⟨v, op, imm, iv, kids⟩ := p
  rw [WfP, WfL.iff]
  rfl
theorem wf_of_vPt (p : Pt) : ∀ (s m : Int) (vs : List Int), (vPt p s m vs).1 = true → WfP vs.length p := by
  induction p using Pt.ind with
  | h p ih =>
    intro s m vs h
    rw [WfP.iff]
    by_cases hv : p.v = 0
    · rw [vPt_op hv] at h
      split at h
      · rename_i hc
        refine ⟨by omega, by omega, fun _ => hc.2.1, ?_⟩
        suffices ∀ (ks : List Pt) (ss : List Int) (us : List Int), us.length = vs.length → (∀ k ∈ ks, k ∈ p.kids) → (vKids ks ss m us).1 = true → ∀ k ∈ ks, WfP vs.length k from this _ _ _ rfl (fun k hk => hk) h
        intro ks
        induction ks with
        | nil => intro ss us _ _ _ k hk; simp at hk
        | cons k ks ihk =>
          intro ss us hu hm hk
          simp only [vKids] at hk
          split at hk
          · rename_i hk1
            intro k' hk'
            rcases List.mem_cons.1 hk' with rfl | hk'
            · have := ih _ (hm _ (by simp)) _ _ _ hk1
              rwa [hu] at this
            · exact ihk _ _ (by rw [vPt_len]; exact hu) (fun x hx => hm x (by simp [hx])) hk k' hk'
          · exact absurd hk (by simp)
      · simp at h
    · rw [vPt_var hv] at h
      split at h
      · simp at h
      · rename_i hc
        refine ⟨by omega, by omega, fun e => absurd e hv, ?_⟩
        intro k hk
        have : 0 < p.kids.length := List.length_pos_of_mem hk
        omega
end Go.Proofs.Ytnefhokojbkppaa
