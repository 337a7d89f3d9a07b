/-
  Rules in plain terms: which variables occur in which positions; what a valid rule is. No condition of its own.
  Valid rules in plain terms: the code's conditions and the reference's are the same. No condition of its own.
  The code's Valid and the reference's: both tell whether a rule is valid. No condition of its own.
  Rules as they lie in memory; what rules.sorts and rules.collect do.
-/
import Derived.Test.YtblkgjdhaibhgaaRVal
import Derived.Test.YtblkgjdhaibhgaaPVal3
import Derived.Laws.ResultCell
import Derived.Laws.Rows
namespace Go.Proofs.Ytblkgjdhaibhgaa
open Go.RowKit

theorem Pt.indL {Q : Pt → Prop} {QL : List Pt → List Int → Prop} (hn : ∀ ss, QL [] ss) (hc : ∀ k ks ss, Q k → QL ks ss.tail → QL (k :: ks) ss) (l : List Pt) (h : ∀ k ∈ l, Q k) : ∀ ss, QL l ss := by
  induction l with
  | nil => exact hn
  | cons k ks ih => exact fun ss => hc k ks ss (h k (by simp)) (ih (fun x hx => h x (by simp [hx])) _)
mutual
/-- The occurrences of variables, each with the sort of its position. -/
def occ : Pt → Int → List (Int × Int)
  | .mk v op _ _ kids, s => if v ≠ 0 then [(v, s)] else occL kids (oSortsF op).1
def occL : List Pt → List Int → List (Int × Int)
  | [], _ => []
  | k :: ks, ss => occ k (ss.headD 0) ++ occL ks ss.tail
end
mutual
/-- The shape of a valid pattern with n variables in a position of sort s. -/
def shp : Pt → Int → Int → Nat → Bool
  | .mk v op imm iv kids, s, m, n =>
    if v ≠ 0 then decide (¬(v < 1 ∨ v > n ∨ op ≠ 0 ∨ imm ≠ 0 ∨ iv ≠ 0 ∨ 0 < kids.length))
    else decide ((oSortsF op).2.2 = true ∧ kids.length = (oSortsF op).1.length ∧ (s = 0 ∨ s = (oSortsF op).2.1) ∧ pImmF (.mk v op imm iv kids) m = true) && shpL kids (oSortsF op).1 m n
def shpL : List Pt → List Int → Int → Nat → Bool
  | [], _, _, _ => true
  | k :: ks, ss, m, n => shp k (ss.headD 0) m n && shpL ks ss.tail m n
end
mutual
/-- All nodes of a pattern. -/
def nodes : Pt → List Pt
  | .mk v op imm iv kids => .mk v op imm iv kids :: nodesL kids
def nodesL : List Pt → List Pt
  | [] => []
  | k :: ks => nodes k ++ nodesL ks
end
theorem occ_var {p : Pt} (h : p.v ≠ 0) (s : Int) : occ p s = [(p.v, s)] := by cases p; simp only [occ, Pt.v] at h ⊢; rw [if_pos h]
theorem occ_op {p : Pt} (h : p.v = 0) (s : Int) : occ p s = occL p.kids (oSortsF p.op).1 := by cases p; simp only [occ, Pt.v, Pt.kids, Pt.op] at h ⊢; rw [if_neg (by omega)]
theorem shp_var {p : Pt} (h : p.v ≠ 0) (s m : Int) (n : Nat) : shp p s m n = decide (¬(p.v < 1 ∨ p.v > n ∨ p.op ≠ 0 ∨ p.imm ≠ 0 ∨ p.iv ≠ 0 ∨ 0 < p.kids.length)) := by cases p; simp only [shp, Pt.v] at h ⊢; rw [if_pos h]; rfl
theorem shp_op {p : Pt} (h : p.v = 0) (s m : Int) (n : Nat) : shp p s m n = (decide ((oSortsF p.op).2.2 = true ∧ p.kids.length = (oSortsF p.op).1.length ∧ (s = 0 ∨ s = (oSortsF p.op).2.1) ∧ pImmF p m = true) && shpL p.kids (oSortsF p.op).1 m n) := by
  cases p; simp only [shp, Pt.v] at h ⊢; rw [if_neg (by omega)]; rfl
theorem nodes_eq (p : Pt) : nodes p = p :: nodesL p.kids := by cases p; simp only [nodes, Pt.kids]
def run1 (vs : List Int) (t : Int × Int) : Option (List Int) :=
  if vs.getD (t.1 - 1).toNat 0 = 0 then some (vs.set (t.1 - 1).toNat t.2) else if t.2 = 0 ∨ t.2 = vs.getD (t.1 - 1).toNat 0 then some vs else none
/-- The sorts of the variables behind a list of occurrences. -/
def run : List (Int × Int) → List Int → Option (List Int)
  | [], vs => some vs
  | t :: l, vs => match run1 vs t with
    | none => none
    | some v => run l v
theorem run1_len {vs vs' : List Int} {t : Int × Int} (h : run1 vs t = some vs') : vs'.length = vs.length := by
  unfold run1 at h
  split at h
  · injection h with h; subst h; simp
  · split at h
    · injection h with h; subst h; rfl
    · cases h
theorem run_len : ∀ {l : List (Int × Int)} {vs vs' : List Int}, run l vs = some vs' → vs'.length = vs.length
  | [], vs, vs', h => by injection h with h; subst h; rfl
  | t :: l, vs, vs', h => by
    simp only [run] at h
    split at h
    · cases h
    · rename_i v hv
      rw [run_len h, run1_len hv]
theorem run_append : ∀ (a b : List (Int × Int)) (vs : List Int), run (a ++ b) vs = match run a vs with | none => none | some v => run b v
  | [], b, vs => rfl
  | t :: a, b, vs => by
    simp only [List.cons_append, run]
    cases run1 vs t with
    | none => rfl
    | some v => exact run_append a b v
theorem vPt_iff (p : Pt) : ∀ (s m : Int) (vs vs' : List Int), vPt p s m vs = (true, vs') ↔ shp p s m vs.length = true ∧ run (occ p s) vs = some vs' := by
  induction p using Pt.ind with
  | h p ih =>
    intro s m vs vs'
    by_cases hv : p.v = 0
    · rw [vPt_op hv, shp_op hv, occ_op hv]
      have key : ∀ ss, (fun (ks : List Pt) (ss : List Int) => ∀ (vs vs' : List Int), vKids ks ss m vs = (true, vs') ↔ shpL ks ss m vs.length = true ∧ run (occL ks ss) vs = some vs') p.kids ss := by
        refine Pt.indL (Q := fun k => ∀ (s m : Int) (vs vs' : List Int), vPt k s m vs = (true, vs') ↔ shp k s m vs.length = true ∧ run (occ k s) vs = some vs') (QL := fun (ks : List Pt) (ss : List Int) => ∀ (vs vs' : List Int), vKids ks ss m vs = (true, vs') ↔ shpL ks ss m vs.length = true ∧ run (occL ks ss) vs = some vs') ?_ ?_ _ ih
        · intro ss vs vs'
          simp [vKids, shpL, occL, run]
        · intro k ks ss hk hks vs vs'
          have hk := hk (ss.headD 0) m vs
          simp only [vKids, shpL, occL, run_append, Bool.and_eq_true]
          rcases hq : vPt k (ss.headD 0) m vs with ⟨b, v1⟩
          cases b with
          | false =>
            constructor
            · intro h; simp at h
            · rintro ⟨⟨h1, _⟩, h3⟩
              cases hr : run (occ k (ss.headD 0)) vs with
              | none => rw [hr] at h3; cases h3
              | some v =>
                have := (hk v).2 ⟨h1, hr⟩
                rw [hq] at this
                injection this with this _; cases this
          | true =>
            obtain ⟨h1, h2⟩ := (hk v1).1 hq
            rw [h2]
            simp only [if_true, h1, true_and]
            rw [hks v1 vs', run_len h2]
      constructor
      · intro h
        split at h
        · rename_i hc
          obtain ⟨k1, k2⟩ := (key _ vs vs').1 h
          exact ⟨by rw [decide_eq_true hc, k1]; rfl, k2⟩
        · injection h with h _; cases h
      · rintro ⟨h1, h2⟩
        rw [Bool.and_eq_true, decide_eq_true_eq] at h1
        rw [if_pos h1.1]
        exact (key _ vs vs').2 ⟨h1.2, h2⟩
    · rw [vPt_var hv, shp_var hv, occ_var hv]
      simp only [run, run1]
      by_cases hb : p.v < 1 ∨ p.v > vs.length ∨ p.op ≠ 0 ∨ p.imm ≠ 0 ∨ p.iv ≠ 0 ∨ 0 < p.kids.length
      · rw [if_pos hb, decide_eq_false (fun q => q hb)]; simp
      · rw [if_neg hb, decide_eq_true hb]
        by_cases h0 : vs.getD (p.v - 1).toNat 0 = 0
        · rw [if_pos h0, if_pos h0]; simp
        · rw [if_neg h0, if_neg h0]
          by_cases h1 : s = 0 ∨ s = vs.getD (p.v - 1).toNat 0
          · rw [if_pos h1, decide_eq_true h1]; simp
          · rw [if_neg h1, decide_eq_false h1]; simp
/-- All occurrences are of variables 1 to n in positions of sort 1 or 2. -/
def InR (n : Nat) (l : List (Int × Int)) : Prop := ∀ t ∈ l, 1 ≤ t.1 ∧ t.1 ≤ n ∧ (t.2 = 1 ∨ t.2 = 2)
theorem osort_kid {op : Int} : ∀ x ∈ (oSortsF op).1, x = 1 ∨ x = 2 := by
  intro x hx
  unfold oSortsF at hx
  (repeat' split at hx) <;> simp at hx <;> omega
theorem osort_own {op : Int} (h : (oSortsF op).2.2 = true) : (oSortsF op).2.1 = 1 ∨ (oSortsF op).2.1 = 2 := by
  unfold oSortsF at h ⊢
  (repeat' split at h) <;> (repeat' split) <;> simp_all
theorem shp_inR (p : Pt) : ∀ (s m : Int) (n : Nat), shp p s m n = true → (s = 1 ∨ s = 2 ∨ p.v = 0) → InR n (occ p s) := by
  induction p using Pt.ind with
  | h p ih =>
    intro s m n h hs
    by_cases hv : p.v = 0
    · rw [shp_op hv, Bool.and_eq_true, decide_eq_true_eq] at h
      rw [occ_op hv]
      have hl : p.kids.length ≤ (oSortsF p.op).1.length := by omega
      have key : ∀ ss, (fun (ks : List Pt) (ss : List Int) => ks.length ≤ ss.length → (∀ x ∈ ss, x = 1 ∨ x = 2) → shpL ks ss m n = true → InR n (occL ks ss)) p.kids ss := by
        refine Pt.indL (Q := fun k => ∀ (s m : Int) (n : Nat), shp k s m n = true → (s = 1 ∨ s = 2 ∨ k.v = 0) → InR n (occ k s)) (QL := fun (ks : List Pt) (ss : List Int) => ks.length ≤ ss.length → (∀ x ∈ ss, x = 1 ∨ x = 2) → shpL ks ss m n = true → InR n (occL ks ss)) ?_ ?_ _ ih
        · intro ss _ _ _ t ht; simp [occL] at ht
        · intro k ks ss hk hks h1 h2 h3 t ht
          rw [shpL, Bool.and_eq_true] at h3
          rw [occL] at ht
          cases ss with
          | nil => simp at h1
          | cons x ss =>
            rcases List.mem_append.1 ht with ht | ht
            · have := h2 x (by simp)
              exact hk x m n h3.1 (by omega) t ht
            · exact hks (by simpa using h1) (fun y hy => h2 y (List.mem_cons_of_mem _ hy)) h3.2 t ht
      exact key _ hl osort_kid h.2
    · rw [shp_var hv, decide_eq_true_eq] at h
      rw [occ_var hv]
      intro t ht
      simp only [List.mem_singleton] at ht
      subst ht
      exact ⟨by omega, by omega, by omega⟩
theorem set_getD {vs : List Int} {i j : Nat} {x : Int} (hi : i < vs.length) : (vs.set i x).getD j 0 = if i = j then x else vs.getD j 0 := by
  by_cases e : i = j
  · subst e; rw [if_pos rfl]; simp [List.getD, hi]
  · rw [if_neg e]; simp [List.getD, e]
theorem run_sound : ∀ {l : List (Int × Int)} {vs vs' : List Int}, InR vs.length l → run l vs = some vs' → (∀ i, vs.getD i 0 ≠ 0 → vs'.getD i 0 = vs.getD i 0) ∧ ∀ t ∈ l, vs'.getD (t.1 - 1).toNat 0 = t.2
  | [], vs, vs', _, h => by injection h with h; subst h; exact ⟨fun _ _ => rfl, by simp⟩
  | t :: l, vs, vs', hr, h => by
    have ht := hr t (by simp)
    simp only [run] at h
    split at h
    · cases h
    · rename_i v hv
      have hl := run1_len hv
      obtain ⟨i1, i2⟩ := run_sound (fun x hx => by rw [hl]; exact hr x (List.mem_cons_of_mem _ hx)) h
      have k1 : ∀ i, vs.getD i 0 ≠ 0 → v.getD i 0 = vs.getD i 0 := by
        unfold run1 at hv
        split at hv
        · injection hv with hv; subst hv
          intro i hi
          rw [set_getD (by omega)]
          split
          · rename_i e q; rw [q] at e; exact absurd e hi
          · rfl
        · split at hv
          · injection hv with hv; subst hv; exact fun _ _ => rfl
          · cases hv
      have k2 : v.getD (t.1 - 1).toNat 0 = t.2 := by
        unfold run1 at hv
        split at hv
        · injection hv with hv; subst hv
          rw [set_getD (by omega), if_pos rfl]
        · split at hv
          · rename_i q1 q2
            injection hv with hv; subst hv
            rcases q2 with q2 | q2
            · omega
            · exact q2.symm
          · cases hv
      refine ⟨fun i hi => ?_, fun x hx => ?_⟩
      · rw [i1 i (by rw [k1 i hi]; exact hi), k1 i hi]
      · rcases List.mem_cons.1 hx with rfl | hx
        · rw [i1 _ (by rw [k2]; omega), k2]
        · exact i2 x hx
theorem run_some (f : Int → Int) : ∀ {l : List (Int × Int)} {vs : List Int}, InR vs.length l → (∀ t ∈ l, t.2 = f t.1) → (∀ i : Nat, vs.getD i 0 = 0 ∨ vs.getD i 0 = f ((i : Int) + 1)) →
    ∃ vs', run l vs = some vs' ∧ (∀ i : Nat, vs'.getD i 0 = 0 ∨ vs'.getD i 0 = f ((i : Int) + 1)) ∧ ∀ i : Nat, vs.getD i 0 = 0 → (∀ t ∈ l, t.1 ≠ (i : Int) + 1) → vs'.getD i 0 = 0
  | [], vs, _, _, h => ⟨vs, rfl, h, fun _ q _ => q⟩
  | t :: l, vs, hr, hf, h => by
    have ht := hr t (by simp)
    have hft := hf t (by simp)
    have hidx : (((t.1 - 1).toNat : Nat) : Int) + 1 = t.1 := by omega
    have h1 : ∃ v, run1 vs t = some v ∧ (∀ i : Nat, v.getD i 0 = 0 ∨ v.getD i 0 = f ((i : Int) + 1)) ∧ ∀ i : Nat, vs.getD i 0 = 0 → t.1 ≠ (i : Int) + 1 → v.getD i 0 = 0 := by
      unfold run1
      by_cases q : vs.getD (t.1 - 1).toNat 0 = 0
      · rw [if_pos q]
        refine ⟨_, rfl, fun i => ?_, fun i hi hne => ?_⟩
        · rw [set_getD (by omega)]
          split
          · rename_i e; right; rw [← e, hidx]; exact hft
          · exact h i
        · rw [set_getD (by omega), if_neg (by omega)]; exact hi
      · rw [if_neg q]
        have := h (t.1 - 1).toNat
        rw [hidx] at this
        rw [if_pos (Or.inr (by omega))]
        exact ⟨vs, rfl, h, fun i hi _ => hi⟩
    obtain ⟨v, e, g1, g2⟩ := h1
    obtain ⟨vs', r1, r2, r3⟩ := run_some f (l := l) (vs := v) (fun x hx => by rw [run1_len e]; exact hr x (List.mem_cons_of_mem _ hx)) (fun x hx => hf x (List.mem_cons_of_mem _ hx)) g1
    refine ⟨vs', ?_, r2, fun i hi hne => ?_⟩
    · simp only [run, e, r1]
    · exact r3 i (g2 i hi (hne t (by simp))) (fun x hx => hne x (List.mem_cons_of_mem _ hx))
end Go.Proofs.Ytblkgjdhaibhgaa

namespace Go.Proofs.Ytblkgjdhaibhgaa
open Go.RowKit

structure Cd where
  kind : Int
  a : Int
  b : Int
  n : Int
deriving DecidableEq
structure Rl where
  name : ByteArray
  l : Pt
  r : Pt
  conds : List Cd
  vars : Int
  imms : Int
def nmCh (c : UInt8) : Bool := decide (97 ≤ c.toNat ∧ c.toNat ≤ 122 ∨ 48 ≤ c.toNat ∧ c.toNat ≤ 57 ∨ c.toNat = 45)
def nameF (s : ByteArray) : Bool := s.data.toList.all nmCh && decide (1 ≤ s.size ∧ s.size ≤ 16)
/-- Is n the number of a pattern variable for a value? -/
def isValF (ss : List Int) (n : Int) : Bool := decide (1 ≤ n ∧ n < ss.length ∧ ss.getD n.toNat 0 = 1)
def isImmF (m n : Int) : Bool := decide (1 ≤ n ∧ n ≤ m)
def condF (c : Cd) (ss : List Int) (m : Int) : Bool :=
  if c.kind = 1 then isValF ss c.a && decide (c.b = 0) && decide (c.n = 0)
  else if c.kind = 2 ∨ c.kind = 3 then isValF ss c.a && decide (c.b = 0)
  else if c.kind = 4 then isValF ss c.a && isValF ss c.b && decide (c.a ≠ c.b) && decide (c.n = 0)
  else if c.kind = 5 then isValF ss c.a && isImmF m c.b && decide (c.n = 0)
  else if c.kind = 6 then isImmF m c.a && isImmF m c.b && decide (c.a ≠ c.b) && decide (c.n = 0)
  else false
theorem condF_congr {c : Cd} {ss ss' : List Int} {m : Int} (hl : ss.length = ss'.length) (h : ∀ i : Nat, 1 ≤ i → i < ss.length → (ss.getD i 0 = 1 ↔ ss'.getD i 0 = 1)) : condF c ss m = condF c ss' m := by
  have e : ∀ n, isValF ss n = isValF ss' n := fun n => by
    unfold isValF
    rw [← hl]
    by_cases q : 1 ≤ n ∧ n < ss.length
    · have := h n.toNat (by omega) (by omega)
      rw [Bool.eq_iff_iff, decide_eq_true_iff, decide_eq_true_iff, this]
    · rw [decide_eq_false (fun r => q ⟨r.1, r.2.1⟩), decide_eq_false (fun r => q ⟨r.1, r.2.1⟩)]
  unfold condF
  rw [e, e]
def orB (a b : Int) : Int := bits BinOp.or IntKind.i64 a b
/-- The sorts of the occurrences, as bits. -/
def colV (l : List (Int × Int)) (vs : List Int) : List Int := l.foldl (fun vs t => vs.set t.1.toNat (orB (vs.getD t.1.toNat 0) t.2)) vs
def occI (p : Pt) : List Int := ((nodes p).filter fun q => decide (q.v = 0)).map Pt.iv
def colI (l : List Int) (ms : List Int) : List Int := l.foldl (fun ms i => ms.set i.toNat 1) ms
def rsF (op : Int) : List Int × Int :=
  if op = 23 then ([2, 1, 0], 1) else if op = 24 then ([2, 0, 0], 1) else if op = 27 ∨ op = 29 then ([2, 1, 0], 2) else if op = 28 then ([2, 1, 1], 2) else ([1, 1, 1], 1)
theorem rs_parts {op : Int} (h : (oSortsF op).2.2 = true) : (rsF op).2 = (oSortsF op).2.1 ∧ (oSortsF op).1.length ≤ 3 ∧ ∀ i (hi : i < (oSortsF op).1.length), (rsF op).1.getD i 0 = (oSortsF op).1[i] := by
  have ho : op = 1 ∨ op = 23 ∨ op = 24 ∨ op = 27 ∨ op = 29 ∨ op = 28 ∨ op = 20 ∨ op = 21 ∨ op = 22 ∨ (4 ≤ op ∧ op ≤ 19) := by
    rw [← allowed_ok] at h
    simp only [allowedF, decide_eq_true_iff] at h
    omega
  have fin : ∀ (l l' : List Int) (x : Int) (b : Bool), oSortsF op = (l, x, b) → rsF op = (l', x) → l.length ≤ 3 → (∀ i (hi : i < l.length), l'.getD i 0 = l[i]) → (rsF op).2 = (oSortsF op).2.1 ∧ (oSortsF op).1.length ≤ 3 ∧ ∀ i (hi : i < (oSortsF op).1.length), (rsF op).1.getD i 0 = (oSortsF op).1[i] := fun l l' x b e e' h1 h2 => by
    refine ⟨by rw [e, e'], by rw [e]; exact h1, ?_⟩
    rw [e, e']; exact h2
  rcases ho with rfl | rfl | rfl | rfl | rfl | rfl | rfl | rfl | rfl | hr
  · exact fin [] [1, 1, 1] 1 true rfl rfl (by simp) (fun i hi => by simp at hi)
  · exact fin [2, 1] [2, 1, 0] 1 true rfl rfl (by simp) (fun i hi => by match i, hi with | 0, _ => rfl | 1, _ => rfl)
  · exact fin [2] [2, 0, 0] 1 true rfl rfl (by simp) (fun i hi => by match i, hi with | 0, _ => rfl)
  · exact fin [2, 1] [2, 1, 0] 2 true rfl rfl (by simp) (fun i hi => by match i, hi with | 0, _ => rfl | 1, _ => rfl)
  · exact fin [2, 1] [2, 1, 0] 2 true rfl rfl (by simp) (fun i hi => by match i, hi with | 0, _ => rfl | 1, _ => rfl)
  · exact fin [2, 1, 1] [2, 1, 1] 2 true rfl rfl (by simp) (fun i hi => by match i, hi with | 0, _ => rfl | 1, _ => rfl | 2, _ => rfl)
  · exact fin [1] [1, 1, 1] 1 true rfl rfl (by simp) (fun i hi => by match i, hi with | 0, _ => rfl)
  · exact fin [1] [1, 1, 1] 1 true rfl rfl (by simp) (fun i hi => by match i, hi with | 0, _ => rfl)
  · exact fin [1, 1, 1] [1, 1, 1] 1 true rfl rfl (by simp) (fun i hi => by match i, hi with | 0, _ => rfl | 1, _ => rfl | 2, _ => rfl)
  · refine fin [1, 1] [1, 1, 1] 1 true ?_ ?_ (by simp) (fun i hi => by match i, hi with | 0, _ => rfl | 1, _ => rfl)
    · unfold oSortsF
      rw [if_neg (by omega), if_neg (by omega), if_neg (by omega), if_neg (by omega), if_neg (by omega), if_pos (by omega), if_neg (by omega), if_neg (by omega)]
    · unfold rsF
      rw [if_neg (by omega), if_neg (by omega), if_neg (by omega), if_neg (by omega)]
/-- What the code's Valid looks at behind its first tests. -/
def implG (r : Rl) : Bool :=
  (((colV (occ r.l (rsF r.l.op).2) (List.replicate (r.vars.toNat + 1) 0)).drop 1).all fun x => decide (x ≠ 0)) &&
  (((colI (occI r.l) (List.replicate (r.imms.toNat + 1) 0)).drop 1).all fun x => decide (x ≠ 0)) &&
  (decide (r.r.v ≠ 0) || decide ((rsF r.r.op).2 = (rsF r.l.op).2)) &&
  (((colV (occ r.r (rsF r.l.op).2) (colV (occ r.l (rsF r.l.op).2) (List.replicate (r.vars.toNat + 1) 0))).drop 1).all fun x => decide (x ≠ 3)) &&
  (r.conds.all fun c => condF c (colV (occ r.r (rsF r.l.op).2) (colV (occ r.l (rsF r.l.op).2) (List.replicate (r.vars.toNat + 1) 0))) r.imms)
def implF (r : Rl) : Bool := decide (r.l.v = 0) && validF r.l r.vars r.imms && validF r.r r.vars r.imms && nameF r.name && decide (r.conds.length ≤ 6) && implG r
def markV (l : List Pt) (bs : List Bool) : List Bool := l.foldl (fun bs q => if 0 < q.v ∧ q.v < (bs.length : Int) then bs.set q.v.toNat true else bs) bs
def markI (l : List Pt) (bs : List Bool) : List Bool := l.foldl (fun bs q => if 0 < q.iv ∧ q.iv < (bs.length : Int) then bs.set q.iv.toNat true else bs) bs
def refF (r : Rl) : Bool :=
  decide (0 ≤ r.vars ∧ r.vars ≤ 6 ∧ 0 ≤ r.imms ∧ r.imms ≤ 6) && nameF r.name && decide (r.conds.length ≤ 6) && decide (r.l.v = 0 ∧ r.l.size ≤ 24 ∧ r.r.size ≤ 24) &&
  (vPt r.l 0 r.imms (List.replicate r.vars.toNat 0)).1 && (vPt r.r (pSortF r.l.op) r.imms (vPt r.l 0 r.imms (List.replicate r.vars.toNat 0)).2).1 &&
  ((markV (nodes r.l) (List.replicate (r.vars.toNat + 1) false)).drop 1).all id && ((markI (nodes r.l) (List.replicate (r.imms.toNat + 1) false)).drop 1).all id &&
  (r.conds.all fun c => condF c (0 :: (vPt r.r (pSortF r.l.op) r.imms (vPt r.l 0 r.imms (List.replicate r.vars.toNat 0)).2).2) r.imms)

/-! What the lists of marks hold -/
def code (a b : Bool) : Int := (if a then 1 else 0) + (if b then 2 else 0)
theorem orB_code : ∀ a b : Bool, orB (code a b) 1 = code true b ∧ orB (code a b) 2 = code a true := by decide +kernel
def hasO (l : List (Int × Int)) (i s : Int) : Bool := decide ((i, s) ∈ l)
theorem colV_len : ∀ (l : List (Int × Int)) (vs : List Int), (colV l vs).length = vs.length
  | [], _ => rfl
  | t :: l, vs => by
    show (colV l _).length = _
    rw [colV_len l]; simp
theorem colV_code : ∀ {l : List (Int × Int)} {vs : List Int} {n : Nat} (fa fb : Nat → Bool), vs.length = n + 1 → InR n l → (∀ i : Nat, i < n + 1 → vs.getD i 0 = code (fa i) (fb i)) → ∀ i : Nat, i < n + 1 → (colV l vs).getD i 0 = code (fa i || hasO l i 1) (fb i || hasO l i 2)
  | [], vs, n, fa, fb, _, _, h => fun i hi => by
    show vs.getD i 0 = _
    rw [h i hi]
    simp [hasO]
  | t :: l, vs, n, fa, fb, hl, hr, h => fun i hi => by
    obtain ⟨a1, a2, a3⟩ := hr t (by simp)
    obtain ⟨j, hj⟩ : ∃ j : Nat, t.1 = (j : Int) := Int.eq_ofNat_of_zero_le (by omega)
    have hjn : j < n + 1 := by omega
    have hv := h j hjn
    have key : ∀ k : Nat, k < n + 1 → (vs.set t.1.toNat (orB (vs.getD t.1.toNat 0) t.2)).getD k 0 = code (fa k || decide ((k : Int) = t.1 ∧ t.2 = 1)) (fb k || decide ((k : Int) = t.1 ∧ t.2 = 2)) := by
      intro k hk
      rw [hj, Int.toNat_natCast, set_getD (by omega), hv]
      have oc := orB_code (fa j) (fb j)
      by_cases e : j = k
      · subst e
        rw [if_pos rfl]
        rcases a3 with q | q
        · rw [q, oc.1]; simp
        · rw [q, oc.2]; simp
      · rw [if_neg e, h k hk]
        have e2 : ¬((k : Int) = (j : Int)) := by omega
        simp [e2]
    show (colV l (vs.set t.1.toNat (orB (vs.getD t.1.toNat 0) t.2))).getD i 0 = _
    rw [colV_code _ _ (by simpa using hl) (fun x hx => hr x (List.mem_cons_of_mem _ hx)) key i hi]
    have e1 : hasO (t :: l) i 1 = (decide ((i : Int) = t.1 ∧ t.2 = 1) || hasO l i 1) := by
      unfold hasO
      rw [Bool.eq_iff_iff]
      simp only [decide_eq_true_eq, Bool.or_eq_true, List.mem_cons, Prod.ext_iff]
      constructor
      · rintro (⟨x, y⟩ | h); exact .inl ⟨x, y.symm⟩; exact .inr h
      · rintro (⟨x, y⟩ | h); exact .inl ⟨x, y.symm⟩; exact .inr h
    have e2 : hasO (t :: l) i 2 = (decide ((i : Int) = t.1 ∧ t.2 = 2) || hasO l i 2) := by
      unfold hasO
      rw [Bool.eq_iff_iff]
      simp only [decide_eq_true_eq, Bool.or_eq_true, List.mem_cons, Prod.ext_iff]
      constructor
      · rintro (⟨x, y⟩ | h); exact .inl ⟨x, y.symm⟩; exact .inr h
      · rintro (⟨x, y⟩ | h); exact .inl ⟨x, y.symm⟩; exact .inr h
    rw [e1, e2, Bool.or_assoc, Bool.or_assoc]
theorem colV_zero {l : List (Int × Int)} {n : Nat} (hr : InR n l) (i : Nat) (hi : i < n + 1) : (colV l (List.replicate (n + 1) 0)).getD i 0 = code (hasO l i 1) (hasO l i 2) := by
  have := colV_code (fun _ => false) (fun _ => false) (vs := List.replicate (n + 1) 0) (by simp) hr (fun i hi => by simp [List.getD, code, hi]) i hi
  simpa using this
theorem colV_app (a b : List (Int × Int)) (vs : List Int) : colV b (colV a vs) = colV (a ++ b) vs := by simp [colV]
theorem colI_len : ∀ (l : List Int) (ms : List Int), (colI l ms).length = ms.length
  | [], _ => rfl
  | t :: l, ms => by
    show (colI l _).length = _
    rw [colI_len l]; simp
theorem colI_mem : ∀ {l : List Int} {ms : List Int} {m : Nat}, ms.length = m + 1 → (∀ x ∈ l, 0 ≤ x ∧ x ≤ m) → ∀ i : Nat, i < m + 1 → ((colI l ms).getD i 0 ≠ 0 ↔ ms.getD i 0 ≠ 0 ∨ (i : Int) ∈ l)
  | [], ms, m, _, _ => fun i _ => by simp [colI]
  | t :: l, ms, m, hl, hr => fun i hi => by
    have a := hr t (by simp)
    show (colI l (ms.set t.toNat 1)).getD i 0 ≠ 0 ↔ _
    rw [colI_mem (by simpa using hl) (fun x hx => hr x (List.mem_cons_of_mem _ hx)) i hi, set_getD (by omega)]
    by_cases e : t.toNat = i
    · rw [if_pos e]
      have : (i : Int) = t := by omega
      simp [this]
    · rw [if_neg e]
      have : ¬((i : Int) = t) := by omega
      simp [this]
theorem mark_get (g : Pt → Int) : ∀ (l : List Pt) (bs : List Bool) (i : Nat), (l.foldl (fun bs q => if 0 < g q ∧ g q < bs.length then bs.set (g q).toNat true else bs) bs).length = bs.length ∧ (1 ≤ i → i < bs.length → ((l.foldl (fun bs q => if 0 < g q ∧ g q < bs.length then bs.set (g q).toNat true else bs) bs).getD i false = true ↔ bs.getD i false = true ∨ ∃ q ∈ l, g q = (i : Int)))
  | [], bs, i => ⟨rfl, fun _ _ => by simp⟩
  | t :: l, bs, i => by
    have hs : (if 0 < g t ∧ g t < bs.length then bs.set (g t).toNat true else bs).length = bs.length := by split <;> simp
    obtain ⟨i1, i2⟩ := mark_get g l (if 0 < g t ∧ g t < bs.length then bs.set (g t).toNat true else bs) i
    refine ⟨i1.trans hs, fun h1 h2 => ?_⟩
    rw [List.foldl_cons, i2 h1 (by omega)]
    have : (if 0 < g t ∧ g t < bs.length then bs.set (g t).toNat true else bs).getD i false = true ↔ bs.getD i false = true ∨ g t = (i : Int) := by
      by_cases q : 0 < g t ∧ g t < bs.length
      · rw [if_pos q]
        by_cases e : (g t).toNat = i
        · have : g t = (i : Int) := by omega
          simp [List.getD, h2, this]
        · have : ¬(g t = (i : Int)) := by omega
          simp [List.getD, e, this]
      · rw [if_neg q]
        have : ¬(g t = (i : Int)) := by omega
        simp [this]
    rw [this]
    simp only [List.mem_cons, exists_eq_or_imp, or_assoc]
theorem all_drop {α : Type} {l : List α} {n : Nat} {d : α} {f : α → Bool} (hl : l.length = n + 1) : (l.drop 1).all f = true ↔ ∀ i : Nat, 1 ≤ i → i ≤ n → f (l.getD i d) = true := by
  rw [List.all_eq_true]
  constructor
  · intro h i h1 h2
    have : l.getD i d ∈ l.drop 1 := by
      rw [getD_of (by omega : i < l.length)]
      rw [List.mem_iff_getElem]
      exact ⟨i - 1, by simp; omega, by simp; congr 1; omega⟩
    exact h _ this
  · intro h x hx
    obtain ⟨i, hi, rfl⟩ := List.mem_iff_getElem.1 hx
    have h3 : i < l.length - 1 := by simpa using hi
    have := h (1 + i) (by omega) (by omega)
    rw [getD_of (by omega : 1 + i < l.length)] at this
    simpa [Nat.add_comm] using this
/-! Nodes and occurrences -/
theorem shp_nodes (p : Pt) : ∀ (s m : Int) (n : Nat), shp p s m n = true → (∀ i, i ≠ 0 → ((∃ q ∈ nodes p, q.v = i) ↔ ∃ s', (i, s') ∈ occ p s)) ∧ (∀ q ∈ nodes p, (q.v ≠ 0 → q.iv = 0) ∧ (0 ≤ m → 0 ≤ q.iv ∧ q.iv ≤ m) ∧ q.kids.length ≤ 3) := by
  induction p using Pt.ind with
  | h p ih =>
    intro s m n h
    rw [nodes_eq]
    by_cases hv : p.v = 0
    · rw [shp_op hv, Bool.and_eq_true, decide_eq_true_eq] at h
      obtain ⟨⟨h1, h2, _, h4⟩, h5⟩ := h
      rw [occ_op hv]
      have key := Pt.indL (Q := fun k => ∀ (s m : Int) (n : Nat), shp k s m n = true → (∀ i, i ≠ 0 → ((∃ q ∈ nodes k, q.v = i) ↔ ∃ s', (i, s') ∈ occ k s)) ∧ (∀ q ∈ nodes k, (q.v ≠ 0 → q.iv = 0) ∧ (0 ≤ m → 0 ≤ q.iv ∧ q.iv ≤ m) ∧ q.kids.length ≤ 3))
        (QL := fun (ks : List Pt) (ss : List Int) => shpL ks ss m n = true → (∀ i, i ≠ 0 → ((∃ q ∈ nodesL ks, q.v = i) ↔ ∃ s', (i, s') ∈ occL ks ss)) ∧ (∀ q ∈ nodesL ks, (q.v ≠ 0 → q.iv = 0) ∧ (0 ≤ m → 0 ≤ q.iv ∧ q.iv ≤ m) ∧ q.kids.length ≤ 3))
        (fun ss _ => ⟨fun i _ => by simp [nodesL, occL], fun q hq => by simp [nodesL] at hq⟩)
        (fun k ks ss hk hks h => by
          rw [shpL, Bool.and_eq_true] at h
          obtain ⟨a1, a2⟩ := hk _ _ _ h.1
          obtain ⟨b1, b2⟩ := hks h.2
          refine ⟨fun i hi => ?_, fun q hq => ?_⟩
          · simp only [nodesL, occL, List.mem_append, or_and_right, exists_or]
            rw [a1 i hi, b1 i hi]
          · rw [nodesL] at hq
            rcases List.mem_append.1 hq with hq | hq
            · exact a2 q hq
            · exact b2 q hq) p.kids ih _ h5
      obtain ⟨k1, k2⟩ := key
      refine ⟨fun i hi => ?_, fun q hq => ?_⟩
      · rw [← k1 i hi]
        simp only [List.mem_cons, exists_eq_or_imp]
        constructor
        · rintro (h | h)
          · omega
          · exact h
        · exact .inr
      · rcases List.mem_cons.1 hq with rfl | hq
        · refine ⟨fun q => absurd hv q, fun hm => ?_, ?_⟩
          · by_cases h0 : q.iv = 0
            · omega
            · have : pImmF q m = (hasImmF q.op && decide (q.imm = 0 ∧ 1 ≤ q.iv ∧ q.iv ≤ m)) := if_pos h0
              rw [this, Bool.and_eq_true, decide_eq_true_eq] at h4
              omega
          · have := (rs_parts h1).2.1
            omega
        · exact k2 q hq
    · rw [shp_var hv, decide_eq_true_eq] at h
      have hk : p.kids = [] := List.eq_nil_of_length_eq_zero (by omega)
      rw [occ_var hv, hk]
      refine ⟨fun i hi => ?_, fun q hq => ?_⟩
      · simp only [nodesL, List.mem_singleton, exists_eq_left, Prod.mk.injEq]
        constructor
        · rintro rfl; exact ⟨s, rfl, rfl⟩
        · rintro ⟨_, h, _⟩; exact h.symm
      · simp only [nodesL, List.mem_singleton] at hq
        subst hq
        refine ⟨fun _ => by omega, fun _ => by omega, by rw [hk]; simp⟩
theorem shp_sort {p : Pt} {s m : Int} {n : Nat} (h : shp p s m n = true) : shp p 0 m n = true := by
  by_cases hv : p.v = 0
  · rw [shp_op hv, Bool.and_eq_true, decide_eq_true_eq] at h ⊢
    exact ⟨⟨h.1.1, h.1.2.1, .inl rfl, h.1.2.2.2⟩, h.2⟩
  · rw [shp_var hv] at h ⊢; exact h
theorem shp_own {p : Pt} {s m : Int} {n : Nat} (h : shp p 0 m n = true) (hs : p.v = 0 → s = (oSortsF p.op).2.1) : shp p s m n = true := by
  by_cases hv : p.v = 0
  · rw [shp_op hv, Bool.and_eq_true, decide_eq_true_eq] at h ⊢
    exact ⟨⟨h.1.1, h.1.2.1, .inr (hs hv), h.1.2.2.2⟩, h.2⟩
  · rw [shp_var hv] at h ⊢; exact h
theorem shp_ok {p : Pt} {s m : Int} {n : Nat} (hv : p.v = 0) (h : shp p s m n = true) : (oSortsF p.op).2.2 = true := by
  rw [shp_op hv, Bool.and_eq_true, decide_eq_true_eq] at h
  exact h.1.1
theorem shp_root {p : Pt} {s m : Int} {n : Nat} (h : shp p s m n = true) (hs : s ≠ 0) (hv : p.v = 0) : s = (oSortsF p.op).2.1 := by
  rw [shp_op hv, Bool.and_eq_true, decide_eq_true_eq] at h
  omega
/-- A valid rule. -/
structure RuleOk (r : Rl) : Prop where
  vars : 0 ≤ r.vars ∧ r.vars ≤ 6
  imms : 0 ≤ r.imms ∧ r.imms ≤ 6
  name : nameF r.name = true
  few : r.conds.length ≤ 6
  root : r.l.v = 0
  sizes : r.l.size ≤ 24 ∧ r.r.size ≤ 24
  shl : shp r.l 0 r.imms r.vars.toNat = true
  shr : shp r.r (oSortsF r.l.op).2.1 r.imms r.vars.toNat = true
  all : ∀ i : Nat, 1 ≤ i → i ≤ r.vars.toNat → ∃ s, ((i : Int), s) ∈ occ r.l 0
  one : ∀ i s s', (i, s) ∈ occ r.l 0 ++ occ r.r (oSortsF r.l.op).2.1 → (i, s') ∈ occ r.l 0 ++ occ r.r (oSortsF r.l.op).2.1 → s = s'
  im : ∀ i : Nat, 1 ≤ i → i ≤ r.imms.toNat → (i : Int) ∈ occI r.l
  cnd : ∀ c ∈ r.conds, condF c (0 :: (List.range r.vars.toNat).map fun (i : Nat) => if ((i : Int) + 1, (1 : Int)) ∈ occ r.l 0 then (1 : Int) else 2) r.imms = true
end Go.Proofs.Ytblkgjdhaibhgaa

namespace Go.Proofs.Ytblkgjdhaibhgaa
open Go.RowKit

theorem sorts_get {n : Nat} {f : Nat → Int} {i : Nat} (h1 : 1 ≤ i) (h2 : i ≤ n) : (0 :: (List.range n).map f).getD i 0 = f (i - 1) := by
  obtain ⟨k, rfl⟩ : ∃ k, i = k + 1 := ⟨i - 1, by omega⟩
  simp [List.getD, show k < n by omega]
theorem vPt_fst {p : Pt} {s m : Int} {vs : List Int} : (vPt p s m vs).1 = true ↔ ∃ v, shp p s m vs.length = true ∧ run (occ p s) vs = some v := by
  constructor
  · intro h
    exact ⟨_, (vPt_iff p s m vs (vPt p s m vs).2).1 (by rw [← h])⟩
  · rintro ⟨v, h⟩
    rw [(vPt_iff p s m vs v).2 h]
theorem occ_root {p : Pt} (h : p.v = 0) (s t : Int) : occ p s = occ p t := by rw [occ_op h, occ_op h]
theorem InR.app {n : Nat} {a b : List (Int × Int)} (h : InR n a) (g : InR n b) : InR n (a ++ b) := fun t ht => (List.mem_append.1 ht).elim (h t) (g t)
theorem zeros_get (n i : Nat) : (List.replicate n (0 : Int)).getD i 0 = 0 := by
  simp only [List.getD, List.getElem?_replicate]
  split <;> rfl
section
variable {r : Rl}
theorem RuleOk.own (h : RuleOk r) : (oSortsF r.l.op).2.1 = 1 ∨ (oSortsF r.l.op).2.1 = 2 := osort_own (shp_ok h.root h.shl)
theorem RuleOk.inL (h : RuleOk r) : InR r.vars.toNat (occ r.l 0) := shp_inR _ _ _ _ h.shl (.inr (.inr h.root))
theorem RuleOk.inR (h : RuleOk r) : InR r.vars.toNat (occ r.r (oSortsF r.l.op).2.1) := shp_inR _ _ _ _ h.shr (by have := h.own; omega)
/-- The sort of a variable. -/
theorem RuleOk.srt (h : RuleOk r) : ∀ t ∈ occ r.l 0 ++ occ r.r (oSortsF r.l.op).2.1, t.2 = if (t.1, (1 : Int)) ∈ occ r.l 0 then 1 else 2 := by
  intro t ht
  have hr := h.inL.app h.inR t ht
  obtain ⟨s, hs⟩ := h.all t.1.toNat (by omega) (by omega)
  rw [show ((t.1.toNat : Nat) : Int) = t.1 by omega] at hs
  have e := h.one t.1 t.2 s ht (List.mem_append_left _ hs)
  split
  · rename_i q
    exact h.one t.1 t.2 1 ht (List.mem_append_left _ q)
  · rename_i q
    rcases hr.2.2 with q2 | q2
    · exfalso; exact q (by rw [← e, q2] at hs; exact hs)
    · exact q2
theorem sorts_len (n : Nat) (f : Nat → Int) : (0 :: (List.range n).map f).length = n + 1 := by simp
theorem imp_ok (h : implF r = true) : RuleOk r := by
  unfold implF implG at h
  simp only [Bool.and_eq_true, decide_eq_true_eq, Bool.or_eq_true] at h
  obtain ⟨⟨⟨⟨⟨h1, h2⟩, h3⟩, h4⟩, h5⟩, ⟨⟨⟨⟨g1, g2⟩, g3⟩, g4⟩, g5⟩⟩ := h
  unfold validF at h2 h3
  simp only [Bool.and_eq_true, decide_eq_true_eq] at h2 h3
  obtain ⟨v1, a1, a2⟩ := vPt_fst.1 h2.2
  obtain ⟨v2, b1, b2⟩ := vPt_fst.1 h3.2
  rw [List.length_replicate] at a1 b1
  have ho := shp_ok h1 a1
  have hown := (rs_parts ho).1
  have hown12 := osort_own ho
  have hl := shp_inR _ _ _ _ a1 (.inr (.inr h1))
  have hsr : shp r.r (oSortsF r.l.op).2.1 r.imms r.vars.toNat = true := shp_own b1 (fun hv => by
    rcases g3 with q | q
    · exact absurd hv q
    · rw [← hown, ← q]; exact (rs_parts (shp_ok hv b1)).1)
  have hr := shp_inR _ _ _ _ hsr (by omega)
  rw [hown, occ_root h1 _ 0] at g1 g4 g5
  rw [colV_app] at g4 g5
  have hlr := hl.app hr
  rw [all_drop (n := r.vars.toNat) (d := 0) (by rw [colV_len]; simp)] at g1 g4
  have hone : ∀ i s s', (i, s) ∈ occ r.l 0 ++ occ r.r (oSortsF r.l.op).2.1 → (i, s') ∈ occ r.l 0 ++ occ r.r (oSortsF r.l.op).2.1 → s = s' := by
    intro i s s' k1 k2
    have q1 := hlr _ k1
    have q2 := hlr _ k2
    have := g4 i.toNat (by omega) (by omega)
    rw [decide_eq_true_eq, colV_zero hlr _ (by omega)] at this
    have e : ((i.toNat : Nat) : Int) = i := by omega
    rw [e] at this
    have : ¬((i, (1 : Int)) ∈ occ r.l 0 ++ occ r.r (oSortsF r.l.op).2.1 ∧ (i, (2 : Int)) ∈ occ r.l 0 ++ occ r.r (oSortsF r.l.op).2.1) := by
      rintro ⟨x, y⟩
      apply this
      unfold hasO
      rw [decide_eq_true x, decide_eq_true y]; rfl
    rcases q1.2.2 with z1 | z1 <;> rcases q2.2.2 with z2 | z2
    · have z1 : s = 1 := z1; have z2 : s' = 1 := z2; omega
    · exfalso; have z1 : s = 1 := z1; have z2 : s' = 2 := z2; subst z1; subst z2; exact this ⟨k1, k2⟩
    · exfalso; have z1 : s = 2 := z1; have z2 : s' = 1 := z2; subst z1; subst z2; exact this ⟨k2, k1⟩
    · have z1 : s = 2 := z1; have z2 : s' = 2 := z2; omega
  have hall : ∀ i : Nat, 1 ≤ i → i ≤ r.vars.toNat → ∃ s, ((i : Int), s) ∈ occ r.l 0 := by
    intro i i1 i2
    have := g1 i i1 i2
    rw [decide_eq_true_eq, colV_zero hl _ (by omega)] at this
    by_cases q : ((i : Int), (1 : Int)) ∈ occ r.l 0
    · exact ⟨_, q⟩
    · by_cases q2 : ((i : Int), (2 : Int)) ∈ occ r.l 0
      · exact ⟨_, q2⟩
      · exfalso
        apply this
        unfold hasO
        rw [decide_eq_false q, decide_eq_false q2]; rfl
  have hnd := (shp_nodes _ _ _ _ a1).2
  have him : ∀ i : Nat, 1 ≤ i → i ≤ r.imms.toNat → (i : Int) ∈ occI r.l := by
    intro i i1 i2
    rw [all_drop (n := r.imms.toNat) (d := 0) (by rw [colI_len]; simp)] at g2
    have := g2 i i1 i2
    rw [decide_eq_true_eq, colI_mem (m := r.imms.toNat) (by simp) (fun x hx => by
      obtain ⟨q, hq, rfl⟩ := List.mem_map.1 hx
      have := (hnd q (List.mem_filter.1 hq).1).2.1 (by omega)
      omega) i (by omega)] at this
    rcases this with q | q
    · exfalso; exact q (zeros_get _ _)
    · exact q
  refine ⟨by omega, by omega, h4, h5, h1, by omega, a1, hsr, hall, hone, him, fun c hc => ?_⟩
  have := List.all_eq_true.1 g5 c hc
  rw [← this]
  refine condF_congr (by rw [colV_len]; simp) (fun i i1 i2 => ?_)
  rw [sorts_len] at i2
  rw [sorts_get i1 (by omega), colV_zero hlr _ (by omega)]
  have e : ((i - 1 : Nat) : Int) + 1 = i := by omega
  rw [e]
  obtain ⟨s, hs⟩ := hall i i1 (by omega)
  have hs' := List.mem_append_left (occ r.r (oSortsF r.l.op).2.1) hs
  unfold hasO
  rcases (hl _ hs).2.2 with q | q
  · have q : s = 1 := q
    subst q
    rw [if_pos hs, decide_eq_true hs', decide_eq_false (fun q2 => by have := hone _ _ _ hs' q2; omega)]
    simp [code]
  · have q : s = 2 := q
    subst q
    rw [if_neg (fun q2 => by have := hone _ _ _ hs' (List.mem_append_left _ q2); omega), decide_eq_true hs', decide_eq_false (fun q2 => by have := hone _ _ _ hs' q2; omega)]
    simp [code]
theorem RuleOk.runL (h : RuleOk r) : ∃ v1, run (occ r.l 0) (List.replicate r.vars.toNat 0) = some v1 ∧ (∀ i : Nat, v1.getD i 0 = 0 ∨ v1.getD i 0 = if ((i : Int) + 1, (1 : Int)) ∈ occ r.l 0 then 1 else 2) := by
  obtain ⟨v1, e1, e2, _⟩ := run_some (fun i => if (i, (1 : Int)) ∈ occ r.l 0 then 1 else 2) (l := occ r.l 0) (vs := List.replicate r.vars.toNat 0) (by rw [List.length_replicate]; exact h.inL) (fun t ht => h.srt t (List.mem_append_left _ ht)) (fun i => .inl (zeros_get _ _))
  exact ⟨v1, e1, e2⟩
theorem RuleOk.runR (h : RuleOk r) {v1 : List Int} (e1 : run (occ r.l 0) (List.replicate r.vars.toNat 0) = some v1) (e2 : ∀ i : Nat, v1.getD i 0 = 0 ∨ v1.getD i 0 = if ((i : Int) + 1, (1 : Int)) ∈ occ r.l 0 then 1 else 2) :
    ∃ v2, run (occ r.r (oSortsF r.l.op).2.1) v1 = some v2 := by
  have hl1 : v1.length = r.vars.toNat := by rw [run_len e1]; simp
  obtain ⟨v2, f1, _⟩ := run_some (fun i => if (i, (1 : Int)) ∈ occ r.l 0 then 1 else 2) (l := occ r.r (oSortsF r.l.op).2.1) (vs := v1) (by rw [hl1]; exact h.inR) (fun t ht => h.srt t (List.mem_append_right _ ht)) e2
  exact ⟨v2, f1⟩
theorem ok_imp (h : RuleOk r) : implF r = true := by
  obtain ⟨v1, e1, e2⟩ := h.runL
  have ho := shp_ok h.root h.shl
  have hown := (rs_parts ho).1
  have hnd := (shp_nodes _ _ _ _ h.shl).2
  have hV := h.vars
  have hI := h.imms
  have hS := h.sizes
  have hlr := h.inL.app h.inR
  unfold implF implG
  simp only [Bool.and_eq_true, decide_eq_true_eq, Bool.or_eq_true]
  rw [hown, occ_root h.root _ 0, colV_app]
  refine ⟨⟨⟨⟨⟨h.root, ?_⟩, ?_⟩, h.name⟩, h.few⟩, ⟨⟨⟨⟨?_, ?_⟩, ?_⟩, ?_⟩, ?_⟩⟩
  · unfold validF
    simp only [Bool.and_eq_true, decide_eq_true_eq]
    exact ⟨by omega, vPt_fst.2 ⟨v1, by rw [List.length_replicate]; exact h.shl, e1⟩⟩
  · unfold validF
    simp only [Bool.and_eq_true, decide_eq_true_eq]
    refine ⟨by omega, vPt_fst.2 ?_⟩
    rw [List.length_replicate]
    by_cases hv : r.r.v = 0
    · obtain ⟨v2, f1, _⟩ := run_some (fun i => if (i, (1 : Int)) ∈ occ r.l 0 then 1 else 2) (l := occ r.r (oSortsF r.l.op).2.1) (vs := List.replicate r.vars.toNat 0) (by rw [List.length_replicate]; exact h.inR) (fun t ht => h.srt t (List.mem_append_right _ ht)) (fun i => .inl (zeros_get _ _))
      rw [occ_root hv _ 0] at f1
      exact ⟨v2, shp_sort h.shr, f1⟩
    · refine ⟨(List.replicate r.vars.toNat 0).set (r.r.v - 1).toNat 0, shp_sort h.shr, ?_⟩
      rw [occ_var hv]
      simp only [run, run1]
      rw [if_pos (zeros_get _ _)]
  · rw [all_drop (n := r.vars.toNat) (d := 0) (by rw [colV_len]; simp)]
    intro i i1 i2
    rw [decide_eq_true_eq, colV_zero h.inL _ (by omega)]
    obtain ⟨s, hs⟩ := h.all i i1 i2
    unfold hasO
    rcases (h.inL _ hs).2.2 with q | q
    · have q : s = 1 := q
      subst q
      rw [decide_eq_true hs]
      cases decide (((i : Int), (2 : Int)) ∈ occ r.l 0) <;> decide
    · have q : s = 2 := q
      subst q
      rw [decide_eq_true hs]
      cases decide (((i : Int), (1 : Int)) ∈ occ r.l 0) <;> decide
  · rw [all_drop (n := r.imms.toNat) (d := 0) (by rw [colI_len]; simp)]
    intro i i1 i2
    rw [decide_eq_true_eq, colI_mem (m := r.imms.toNat) (by simp) (fun x hx => by
      obtain ⟨q, hq, rfl⟩ := List.mem_map.1 hx
      have := (hnd q (List.mem_filter.1 hq).1).2.1 (by omega)
      omega) i (by omega)]
    exact .inr (h.im i i1 i2)
  · by_cases hv : r.r.v = 0
    · right
      rw [(rs_parts (shp_ok hv h.shr)).1]
      exact (shp_root h.shr (by have := h.own; omega) hv).symm
    · exact .inl hv
  · rw [all_drop (n := r.vars.toNat) (d := 0) (by rw [colV_len]; simp)]
    intro i i1 i2
    rw [decide_eq_true_eq, colV_zero hlr _ (by omega)]
    unfold hasO
    by_cases q : ((i : Int), (1 : Int)) ∈ occ r.l 0 ++ occ r.r (oSortsF r.l.op).2.1
    · have : ¬((i : Int), (2 : Int)) ∈ occ r.l 0 ++ occ r.r (oSortsF r.l.op).2.1 := fun q2 => by have := h.one _ _ _ q q2; omega
      rw [decide_eq_true q, decide_eq_false this]; decide
    · rw [decide_eq_false q]
      cases decide (((i : Int), (2 : Int)) ∈ occ r.l 0 ++ occ r.r (oSortsF r.l.op).2.1) <;> decide
  · rw [List.all_eq_true]
    intro c hc
    rw [← h.cnd c hc]
    refine condF_congr (by rw [colV_len]; simp) (fun i i1 i2 => ?_)
    rw [colV_len, List.length_replicate] at i2
    rw [sorts_get i1 (by omega), colV_zero hlr _ (by omega)]
    have e : ((i - 1 : Nat) : Int) + 1 = i := by omega
    rw [e]
    obtain ⟨s, hs⟩ := h.all i i1 (by omega)
    have hs' := List.mem_append_left (occ r.r (oSortsF r.l.op).2.1) hs
    unfold hasO
    rcases (h.inL _ hs).2.2 with q | q
    · have q : s = 1 := q
      subst q
      rw [if_pos hs, decide_eq_true hs', decide_eq_false (fun q2 => by have := h.one _ _ _ hs' q2; omega)]
      simp [code]
    · have q : s = 2 := q
      subst q
      rw [if_neg (fun q2 => by have := h.one _ _ _ hs' (List.mem_append_left _ q2); omega), decide_eq_true hs', decide_eq_false (fun q2 => by have := h.one _ _ _ hs' q2; omega)]
      simp [code]
theorem mark_len (l : List Pt) (bs : List Bool) : (markV l bs).length = bs.length ∧ (markI l bs).length = bs.length := ⟨(mark_get Pt.v l bs 0).1, (mark_get Pt.iv l bs 0).1⟩
theorem false_get (n i : Nat) : ¬((List.replicate n false).getD i false = true) := by
  simp only [List.getD, List.getElem?_replicate]
  split <;> simp
theorem ref_ok (h : refF r = true) : RuleOk r := by
  unfold refF at h
  simp only [Bool.and_eq_true, decide_eq_true_eq] at h
  obtain ⟨⟨⟨⟨⟨⟨⟨⟨h1, h2⟩, h3⟩, h4⟩, h5⟩, h6⟩, h7⟩, h8⟩, h9⟩ := h
  obtain ⟨v1, a1, a2⟩ := vPt_fst.1 h5
  have e5 := (vPt_iff _ _ _ _ _).2 ⟨a1, a2⟩
  rw [List.length_replicate] at a1
  have ho := shp_ok h4.1 a1
  have hps := (allowed_parts ho).2.1
  rw [hps, e5] at h6 h9
  have hl1 : v1.length = r.vars.toNat := by rw [run_len a2]; simp
  obtain ⟨v2, b1, b2⟩ := vPt_fst.1 h6
  have e6 := (vPt_iff _ _ _ _ _).2 ⟨b1, b2⟩
  rw [e6] at h9
  rw [hl1] at b1
  have hown12 := osort_own ho
  have hl := shp_inR _ _ _ _ a1 (.inr (.inr h4.1))
  have hr := shp_inR _ _ _ _ b1 (by omega)
  have hlr := hl.app hr
  obtain ⟨s1, s2⟩ := run_sound (by rw [List.length_replicate]; exact hl) a2
  obtain ⟨t1, t2⟩ := run_sound (by rw [hl1]; exact hr) b2
  have hv2 : ∀ t ∈ occ r.l 0 ++ occ r.r (oSortsF r.l.op).2.1, v2.getD (t.1 - 1).toNat 0 = t.2 := by
    intro t ht
    rcases List.mem_append.1 ht with ht | ht
    · have e := s2 t ht
      have := (hl t ht).2.2
      rw [t1 _ (by rw [e]; omega), e]
    · exact t2 t ht
  have hone : ∀ i s s', (i, s) ∈ occ r.l 0 ++ occ r.r (oSortsF r.l.op).2.1 → (i, s') ∈ occ r.l 0 ++ occ r.r (oSortsF r.l.op).2.1 → s = s' := by
    intro i s s' k1 k2
    have q1 := hv2 _ k1
    have q2 := hv2 _ k2
    exact q1.symm.trans q2
  obtain ⟨n1, n2⟩ := shp_nodes _ _ _ _ a1
  have hall : ∀ i : Nat, 1 ≤ i → i ≤ r.vars.toNat → ∃ s, ((i : Int), s) ∈ occ r.l 0 := by
    intro i i1 i2
    rw [all_drop (n := r.vars.toNat) (d := false) (by rw [(mark_len _ _).1]; simp)] at h7
    have := (((mark_get Pt.v (nodes r.l) _ i).2 i1 (by simp; omega)).1 (h7 i i1 i2))
    rcases this with q | q
    · exact absurd q (false_get _ _)
    · exact (n1 i (by omega)).1 q
  have him : ∀ i : Nat, 1 ≤ i → i ≤ r.imms.toNat → (i : Int) ∈ occI r.l := by
    intro i i1 i2
    rw [all_drop (n := r.imms.toNat) (d := false) (by rw [(mark_len _ _).2]; simp)] at h8
    have := (((mark_get Pt.iv (nodes r.l) _ i).2 i1 (by simp; omega)).1 (h8 i i1 i2))
    rcases this with q | ⟨q, hq, e⟩
    · exact absurd q (false_get _ _)
    · refine List.mem_map.2 ⟨q, List.mem_filter.2 ⟨hq, ?_⟩, e⟩
      rw [decide_eq_true_eq]
      exact Decidable.byContradiction fun hv => by have := (n2 q hq).1 hv; omega
  refine ⟨by omega, by omega, h2, h3, h4.1, h4.2, a1, b1, hall, hone, him, fun c hc => ?_⟩
  have := List.all_eq_true.1 h9 c hc
  rw [← this]
  refine condF_congr (by rw [sorts_len]; simp [run_len b2, hl1]) (fun i i1 i2 => ?_)
  rw [sorts_len] at i2
  rw [sorts_get i1 (by omega)]
  have e : ((i - 1 : Nat) : Int) + 1 = i := by omega
  rw [e]
  obtain ⟨s, hs⟩ := hall i i1 (by omega)
  have hg := hv2 _ (List.mem_append_left _ hs)
  have e3 : (0 :: v2).getD i 0 = s := by
    obtain ⟨k, rfl⟩ : ∃ k, i = k + 1 := ⟨i - 1, by omega⟩
    rw [List.getD_cons_succ]
    have : (((k + 1 : Nat) : Int) - 1).toNat = k := by omega
    rw [this] at hg
    exact hg
  rw [e3]
  rcases (hl _ hs).2.2 with q | q
  · have q : s = 1 := q
    subst q
    rw [if_pos hs]
  · have q : s = 2 := q
    subst q
    rw [if_neg (fun q2 => by have := hone _ _ _ (List.mem_append_left _ hs) (List.mem_append_left _ q2); omega)]
theorem ok_ref (h : RuleOk r) : refF r = true := by
  obtain ⟨v1, e1, e2⟩ := h.runL
  obtain ⟨v2, f1⟩ := h.runR e1 e2
  have hl1 : v1.length = r.vars.toNat := by rw [run_len e1]; simp
  have ho := shp_ok h.root h.shl
  have hps := (allowed_parts ho).2.1
  obtain ⟨n1, n2⟩ := shp_nodes _ _ _ _ h.shl
  have hV := h.vars
  have hI := h.imms
  have hS := h.sizes
  have q1 := (vPt_iff r.l 0 r.imms (List.replicate r.vars.toNat 0) v1).2 ⟨by rw [List.length_replicate]; exact h.shl, e1⟩
  have q2 := (vPt_iff r.r (oSortsF r.l.op).2.1 r.imms v1 v2).2 ⟨by rw [hl1]; exact h.shr, f1⟩
  unfold refF
  rw [q1, hps]
  dsimp only
  rw [q2]
  simp only [Bool.and_eq_true, decide_eq_true_eq]
  refine ⟨⟨⟨⟨⟨⟨⟨⟨by omega, h.name⟩, h.few⟩, h.root, h.sizes⟩, trivial⟩, trivial⟩, ?_⟩, ?_⟩, ?_⟩
  · rw [all_drop (n := r.vars.toNat) (d := false) (by rw [(mark_len _ _).1]; simp)]
    intro i i1 i2
    exact ((mark_get Pt.v (nodes r.l) _ i).2 i1 (by simp; omega)).2 (.inr ((n1 i (by omega)).2 (h.all i i1 i2)))
  · rw [all_drop (n := r.imms.toNat) (d := false) (by rw [(mark_len _ _).2]; simp)]
    intro i i1 i2
    obtain ⟨q, hq, e⟩ := List.mem_map.1 (h.im i i1 i2)
    exact ((mark_get Pt.iv (nodes r.l) _ i).2 i1 (by simp; omega)).2 (.inr ⟨q, (List.mem_filter.1 hq).1, e⟩)
  · rw [List.all_eq_true]
    intro c hc
    rw [← h.cnd c hc]
    refine condF_congr (by rw [sorts_len]; simp [run_len f1, hl1]) (fun i i1 i2 => ?_)
    have hlen : (0 :: v2).length = r.vars.toNat + 1 := by simp [run_len f1, hl1]
    rw [sorts_get i1 (by omega)]
    have e : ((i - 1 : Nat) : Int) + 1 = i := by omega
    rw [e]
    obtain ⟨s, hs⟩ := h.all i i1 (by omega)
    obtain ⟨s1, s2⟩ := run_sound (by rw [List.length_replicate]; exact h.inL) e1
    obtain ⟨t1, t2⟩ := run_sound (by rw [hl1]; exact h.inR) f1
    have hg : v2.getD ((i : Int) - 1).toNat 0 = s := by
      have e := s2 _ hs
      have := (h.inL _ hs).2.2
      rw [t1 _ (by rw [e]; omega), e]
    have e3 : (0 :: v2).getD i 0 = s := by
      obtain ⟨k, rfl⟩ : ∃ k, i = k + 1 := ⟨i - 1, by omega⟩
      rw [List.getD_cons_succ]
      have : (((k + 1 : Nat) : Int) - 1).toNat = k := by omega
      rw [this] at hg
      exact hg
    rw [e3]
    rcases (h.inL _ hs).2.2 with q | q
    · have q : s = 1 := q
      subst q
      rw [if_pos hs]
    · have q : s = 2 := q
      subst q
      rw [if_neg (fun q2 => by have := h.one _ _ _ (List.mem_append_left _ hs) (List.mem_append_left _ q2); omega)]
theorem imp_ref (r : Rl) : implF r = refF r := by
  rw [Bool.eq_iff_iff]
  exact ⟨fun h => ok_ref (imp_ok h), fun h => ok_imp (ref_ok h)⟩
end
end Go.Proofs.Ytblkgjdhaibhgaa

namespace Go.Proofs.Ytblkgjdhaibhgaa
open Go.RowKit

theorem take_snoc' {α : Type} {L : List α} {k : Nat} (h : k < L.length) : L.take (k + 1) = L.take k ++ [L[k]] := by
  rw [List.take_add_one, List.getElem?_eq_getElem h]; rfl
/-- The list of conditions at A. -/
def CondsV (w : World) (F : Nat → Prop) (A : Option Addr) (cs : List Cd) : Prop :=
  cs = [] ∨ ∃ b o, A = some ⟨b, o, none⟩ ∧ F b ∧ ∀ i (h : i < cs.length), w.cell? ⟨b, o + i * 4, none⟩ = some (.int .i64 cs[i].kind) ∧ w.cell? ⟨b, o + i * 4 + 1, none⟩ = some (.int .i64 cs[i].a) ∧ w.cell? ⟨b, o + i * 4 + 2, none⟩ = some (.int .i64 cs[i].b) ∧ w.cell? ⟨b, o + i * 4 + 3, none⟩ = some (.int .i64 cs[i].n)
section
variable {w w' : World} {F G S : Nat → Prop} {A : Option Addr} {cs : List Cd}
theorem CondsV.nil : CondsV w F A [] := .inl rfl
theorem CondsV.at_ (h : CondsV w F A cs) {i : Nat} (hi : i < cs.length) : ∃ b o, A = some ⟨b, o, none⟩ ∧ F b ∧ b < w.heap.size ∧ w.cell? ⟨b, o + i * 4, none⟩ = some (.int .i64 cs[i].kind) ∧ w.cell? ⟨b, o + i * 4 + 1, none⟩ = some (.int .i64 cs[i].a) ∧ w.cell? ⟨b, o + i * 4 + 2, none⟩ = some (.int .i64 cs[i].b) ∧ w.cell? ⟨b, o + i * 4 + 3, none⟩ = some (.int .i64 cs[i].n) := by
  rcases h with h | ⟨b, o, e, hF, h⟩
  · subst h; simp at hi
  · exact ⟨b, o, e, hF, World.block_lt_of_cell? _ _ (h i hi).1, h i hi⟩
theorem CondsV.upd (h : CondsV w F A cs) (u : Upd S w w') (d : ∀ k, k < w.heap.size → F k → ¬ S k) : CondsV w' F A cs := by
  rcases h with h | ⟨b, o, e, hF, h⟩
  · exact .inl h
  · refine .inr ⟨b, o, e, hF, fun i hi => ?_⟩
    have hb : ¬ S b := d b (World.block_lt_of_cell? _ _ (h i hi).1) hF
    obtain ⟨h0, h1, h2, h3⟩ := h i hi
    exact ⟨cell_upd h0 u hb, cell_upd h1 u hb, cell_upd h2 u hb, cell_upd h3 u hb⟩
theorem CondsV.mono (h : CondsV w F A cs) (hFG : ∀ k, k < w.heap.size → F k → G k) : CondsV w G A cs := by
  rcases h with h | ⟨b, o, e, hF, h⟩
  · exact .inl h
  · by_cases hn : cs = []
    · exact .inl hn
    · exact .inr ⟨b, o, e, hFG b (World.block_lt_of_cell? _ _ (h 0 (List.length_pos_iff.2 hn)).1) hF, h⟩
end
/-- A rule as a value, and what its parts read as. -/
structure RlA where
  la : Option Addr
  lc : Nat
  ra : Option Addr
  rc : Nat
  ca : Option Addr
  cc : Nat
def rlCells (r : Rl) (a : RlA) : Array Value := #[.string r.name, .int .i64 r.l.v, .int .i64 r.l.op, .int .i64 r.l.imm, .int .i64 r.l.iv, .slice a.la r.l.kids.length a.lc, .int .i64 r.r.v, .int .i64 r.r.op, .int .i64 r.r.imm, .int .i64 r.r.iv, .slice a.ra r.r.kids.length a.rc, .slice a.ca r.conds.length a.cc, .int .i64 r.vars, .int .i64 r.imms]
def rlv (r : Rl) (a : RlA) : Value := .agg (rlCells r a)
structure RlK (w : World) (F : Nat → Prop) (x : Rl) (a : RlA) : Prop where
  l : PtK w F x.l a.la a.lc
  r : PtK w F x.r a.ra a.rc
  c : CondsV w F a.ca x.conds
  le : x.conds.length ≤ a.cc
theorem RlK.upd {w w' : World} {F S : Nat → Prop} {r : Rl} {a : RlA} (h : RlK w F r a) (u : Upd S w w') (d : ∀ k, k < w.heap.size → F k → ¬ S k) : RlK w' F r a :=
  ⟨PtK.upd u d _ _ _ h.l, PtK.upd u d _ _ _ h.r, h.c.upd u d, h.le⟩
theorem RlK.mono {w : World} {F G : Nat → Prop} {r : Rl} {a : RlA} (h : RlK w F r a) (g : ∀ k, k < w.heap.size → F k → G k) : RlK w G r a :=
  ⟨PtK.mono g _ _ _ h.l, PtK.mono g _ _ _ h.r, h.c.mono g, h.le⟩

theorem results_cell_row_tmp {P : Program} {fn : Func} {p u : Tmp} {ty : TypeId} (h : fn.results = #[.cell p ty, .tmp u]) (tmps : Array Value) (w : World) (g : Nat) (t : TypeId) (cs : Array Value) (fr : Nat × Nat) (d : TypeDesc)
    (hp : tmps.getD p undef = .pointer (some ⟨g, 0, none⟩)) (hg : w.heap[g]? = some (.cells cs t fr))
    (hu : P.underlying ty = some d) (hd : (match d with | .struct _ | .array _ _ => true | _ => false) = true) (hi : (P.info? ty).map (·.size) = some cs.size) :
    (results fn tmps).run P w = .ok (.tuple #[.agg cs, tmps.getD u undef]) w := by
  rw [results_cell_tmp h, hp]
  simp [asAddr, run_loadVar_row w g t ty cs fr d hg hu hd hi, Result.andThen]
set_option maxRecDepth 100000 in
set_option maxHeartbeats 4000000 in
theorem rlSorts_c (op : Int) (w : World) : Calls Try.prog 46 #[.int .i64 op] w fun e w' => e = .returned (.tuple #[.agg #[.int .i64 ((rsF op).1.getD 0 0), .int .i64 ((rsF op).1.getD 1 0), .int .i64 ((rsF op).1.getD 2 0)], .int .i64 (rsF op).2]) ∧ Upd Non w w' := by
  have uA : ∀ o, Upd Non w (w.alloc o) := fun o => Upd.refl.alloc o
  by_cases h1 : op = 23
  · subst h1
    go_enter Try.func46, Try.ntmps46
    go_wp2_with fail
    refine bodyPost_ret (results_cell_row_tmp rfl _ _ w.heap.size 92 _ (0, 0) _ rfl (Blk.new _ _ _) Try.underlying92 rfl (by kernel_rfl)) rfl ?_
    exact ⟨rfl, uA _⟩
  by_cases h2 : op = 24
  · subst h2
    go_enter Try.func46, Try.ntmps46
    go_wp2_with fail
    refine bodyPost_ret (results_cell_row_tmp rfl _ _ w.heap.size 92 _ (0, 0) _ rfl (Blk.new _ _ _) Try.underlying92 rfl (by kernel_rfl)) rfl ?_
    exact ⟨rfl, uA _⟩
  by_cases h3 : op = 27
  · subst h3
    go_enter Try.func46, Try.ntmps46
    go_wp2_with fail
    refine bodyPost_ret (results_cell_row_tmp rfl _ _ w.heap.size 92 _ (0, 0) _ rfl (Blk.new _ _ _) Try.underlying92 rfl (by kernel_rfl)) rfl ?_
    exact ⟨rfl, uA _⟩
  by_cases h4 : op = 29
  · subst h4
    go_enter Try.func46, Try.ntmps46
    go_wp2_with fail
    refine bodyPost_ret (results_cell_row_tmp rfl _ _ w.heap.size 92 _ (0, 0) _ rfl (Blk.new _ _ _) Try.underlying92 rfl (by kernel_rfl)) rfl ?_
    exact ⟨rfl, uA _⟩
  by_cases h5 : op = 28
  · subst h5
    go_enter Try.func46, Try.ntmps46
    go_wp2_with fail
    refine bodyPost_ret (results_cell_row_tmp rfl _ _ w.heap.size 92 _ (0, 0) _ rfl (Blk.new _ _ _) Try.underlying92 rfl (by kernel_rfl)) rfl ?_
    exact ⟨rfl, uA _⟩
  · have t1 : (op == 23) = false := by simpa using h1
    have t2 : (op == 24) = false := by simpa using h2
    have t3 : (op == 27) = false := by simpa using h3
    have t4 : (op == 29) = false := by simpa using h4
    have t5 : (op == 28) = false := by simpa using h5
    have e : rsF op = ([1, 1, 1], 1) := by unfold rsF; rw [if_neg h1, if_neg h2, if_neg (by omega), if_neg h5]
    rw [e]
    clear h1 h2 h3 h4 h5 e
    go_enter Try.func46, Try.ntmps46
    go_wp2_with fail
    refine bodyPost_ret (results_cell_row_tmp rfl _ _ w.heap.size 92 _ (0, 0) _ rfl (Blk.new _ _ _) Try.underlying92 rfl (by kernel_rfl)) rfl ?_
    exact ⟨rfl, uA _⟩
/-- The kids' part of occI. -/
def occIL (ks : List Pt) : List Int := ((nodesL ks).filter fun q => decide (q.v = 0)).map Pt.iv
theorem occI_op {p : Pt} (h : p.v = 0) : occI p = p.iv :: occIL p.kids := by
  unfold occI occIL
  rw [nodes_eq]
  simp [h]
theorem occI_var {p : Pt} {s m : Int} {n : Nat} (hs : shp p s m n = true) (h : p.v ≠ 0) : occI p = [] := by
  rw [shp_var h, decide_eq_true_eq] at hs
  have hk : p.kids = [] := List.eq_nil_of_length_eq_zero (by omega)
  unfold occI
  rw [nodes_eq, hk]
  simp [nodesL, h]
theorem nodesL_snoc : ∀ (ks : List Pt) (k : Pt), nodesL (ks ++ [k]) = nodesL ks ++ nodes k
  | [], k => by simp [nodesL]
  | x :: ks, k => by simp [nodesL, nodesL_snoc ks k]
theorem occIL_snoc (ks : List Pt) (k : Pt) : occIL (ks ++ [k]) = occIL ks ++ occI k := by
  unfold occIL occI
  rw [nodesL_snoc, List.filter_append, List.map_append]
theorem occL_snoc : ∀ (ks : List Pt) (k : Pt) (ss : List Int), occL (ks ++ [k]) ss = occL ks ss ++ occ k (ss.getD ks.length 0)
  | [], k, ss => by
    cases ss <;> simp [occL]
  | x :: ks, k, ss => by
    cases ss with
    | nil => simp [occL, occL_snoc ks k]
    | cons y ss => simp [occL, occL_snoc ks k]
theorem shpL_at {m : Int} {n : Nat} : ∀ {ks : List Pt} {ss : List Int} {i : Nat} (hi : i < ks.length), shpL ks ss m n = true → shp ks[i] (ss.getD i 0) m n = true
  | k :: ks, ss, 0, _, h => by
    rw [shpL, Bool.and_eq_true] at h
    have := h.1
    cases ss <;> simpa using this
  | k :: ks, ss, i + 1, hi, h => by
    rw [shpL, Bool.and_eq_true] at h
    have := shpL_at (i := i) (by simpa using hi) h.2
    cases ss <;> simpa using this
theorem colV_snoc (a b : List (Int × Int)) (vs : List Int) : colV (a ++ b) vs = colV b (colV a vs) := by simp [colV]
theorem colI_snoc (a b : List Int) (ms : List Int) : colI (a ++ b) ms = colI b (colI a ms) := by simp [colI]
end Go.Proofs.Ytblkgjdhaibhgaa
