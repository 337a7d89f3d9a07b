/-
  Lemmas and walks that the claim rests on, part 2 (packed by a program).
-/
import Derived.Test.YtblkgjdhaibhgaaGreatA1
import Derived.Laws.ResultCell
import Derived.Laws.Rows
import Derived.Laws.DeepStrings4
namespace Go.Proofs.YtblkgjdhaibhgaaGreat
open Go.RowKit
theorem Pt.indL {Q : Pt → Prop} {QL : List Pt → List Int → Prop} (hn : ∀ ss, QL [] ss) (hc : ∀ k ks ss, Q k → QL ks ss.tail → QL (k :: ks) ss) (l : List Pt) (h : ∀ k ∈ l, Q k) : ∀ ss, QL l ss := by
 induction l with
 | nil => exact hn
 | cons k ks ih => exact fun ss => hc k ks ss (h k (by simp)) (ih (fun x hx => h x (by simp [hx])) _)
mutual
def occ : Pt → Int → List (Int × Int)
 | .mk v op _ _ kids, s => if v ≠ 0 then [(v, s)] else occL kids (oSortsF op).1
def occL : List Pt → List Int → List (Int × Int)
 | [], _ => []
 | k :: ks, ss => occ k (ss.headD 0) ++ occL ks ss.tail
end
mutual
def shp : Pt → Int → Int → Nat → Bool
 | .mk v op imm iv kids, s, m, n =>
  if v ≠ 0 then decide (¬(v < 1 ∨ v > n ∨ op ≠ 0 ∨ imm ≠ 0 ∨ iv ≠ 0 ∨ 0 < kids.length))
  else decide ((oSortsF op).2.2 = true ∧ kids.length = (oSortsF op).1.length ∧ (s = 0 ∨ s = (oSortsF op).2.1) ∧ pImmF (.mk v op imm iv kids) m = true) && shpL kids (oSortsF op).1 m n
def shpL : List Pt → List Int → Int → Nat → Bool
 | [], _, _, _ => true
 | k :: ks, ss, m, n => shp k (ss.headD 0) m n && shpL ks ss.tail m n
end
mutual
def nodes : Pt → List Pt
 | .mk v op imm iv kids => .mk v op imm iv kids :: nodesL kids
def nodesL : List Pt → List Pt
 | [] => []
 | k :: ks => nodes k ++ nodesL ks
end
theorem occ_var {p : Pt} (h : p.v ≠ 0) (s : Int) : occ p s = [(p.v, s)] := by cases p; simp only [occ, Pt.v] at h ⊢; rw [if_pos h]
theorem occ_op {p : Pt} (h : p.v = 0) (s : Int) : occ p s = occL p.kids (oSortsF p.op).1 := by cases p; simp only [occ, Pt.v, Pt.kids, Pt.op] at h ⊢; rw [if_neg (by omega)]
theorem shp_var {p : Pt} (h : p.v ≠ 0) (s m : Int) (n : Nat) : shp p s m n = decide (¬(p.v < 1 ∨ p.v > n ∨ p.op ≠ 0 ∨ p.imm ≠ 0 ∨ p.iv ≠ 0 ∨ 0 < p.kids.length)) := by cases p; simp only [shp, Pt.v] at h ⊢; rw [if_pos h]; rfl
theorem shp_op {p : Pt} (h : p.v = 0) (s m : Int) (n : Nat) : shp p s m n = (decide ((oSortsF p.op).2.2 = true ∧ p.kids.length = (oSortsF p.op).1.length ∧ (s = 0 ∨ s = (oSortsF p.op).2.1) ∧ pImmF p m = true) && shpL p.kids (oSortsF p.op).1 m n) := by
 cases p; simp only [shp, Pt.v] at h ⊢; rw [if_neg (by omega)]; rfl
theorem nodes_eq (p : Pt) : nodes p = p :: nodesL p.kids := by cases p; simp only [nodes, Pt.kids]
def run1 (vs : List Int) (t : Int × Int) : Option (List Int) :=
 if vs.getD (t.1 - 1).toNat 0 = 0 then some (vs.set (t.1 - 1).toNat t.2) else if t.2 = 0 ∨ t.2 = vs.getD (t.1 - 1).toNat 0 then some vs else none
def run : List (Int × Int) → List Int → Option (List Int)
 | [], vs => some vs
 | t :: l, vs => match run1 vs t with
  | none => none
  | some v => run l v
theorem run1_len {vs vs' : List Int} {t : Int × Int} (h : run1 vs t = some vs') : vs'.length = vs.length := by
 unfold run1 at h
 split at h
 ·
  injection h with h; subst h; simp
 ·
  split at h
  ·
   injection h with h; subst h; rfl
  ·
   cases h
theorem run_len : ∀ {l : List (Int × Int)} {vs vs' : List Int}, run l vs = some vs' → vs'.length = vs.length
 | [], vs, vs', h => by injection h with h; subst h; rfl
 | t :: l, vs, vs', h => by
  simp only [run] at h
  split at h
  ·
   cases h
  ·
   rename_i v hv;rw [run_len h, run1_len hv]
theorem run_append : ∀ (a b : List (Int × Int)) (vs : List Int), run (a ++ b) vs = match run a vs with | none => none | some v => run b v
 | [], b, vs => rfl
 | t :: a, b, vs => by
  simp only [List.cons_append, run]
  cases run1 vs t with
  | none => rfl
  | some v => exact run_append a b v
theorem vPt_iff (p : Pt) : ∀ (s m : Int) (vs vs' : List Int), vPt p s m vs = (true, vs') ↔ shp p s m vs.length = true ∧ run (occ p s) vs = some vs' := by
 induction p using Pt.ind with
 | h p ih =>
  intro s m vs vs'
  by_cases hv : p.v = 0
  ·
   rw [vPt_op hv, shp_op hv, occ_op hv]
   have key : ∀ ss, (fun (ks : List Pt) (ss : List Int) => ∀ (vs vs' : List Int), vKids ks ss m vs = (true, vs') ↔ shpL ks ss m vs.length = true ∧ run (occL ks ss) vs = some vs') p.kids ss := by
    refine Pt.indL (Q := fun k => ∀ (s m : Int) (vs vs' : List Int), vPt k s m vs = (true, vs') ↔ shp k s m vs.length = true ∧ run (occ k s) vs = some vs') (QL := fun (ks : List Pt) (ss : List Int) => ∀ (vs vs' : List Int), vKids ks ss m vs = (true, vs') ↔ shpL ks ss m vs.length = true ∧ run (occL ks ss) vs = some vs') ?_ ?_ _ ih
    ·
     intro ss vs vs';simp [vKids, shpL, occL, run]
    ·
     intro k ks ss hk hks vs vs';have hk := hk (ss.headD 0) m vs;simp only [vKids, shpL, occL, run_append, Bool.and_eq_true]
     rcases hq : vPt k (ss.headD 0) m vs with ⟨b, v1⟩
     cases b with
     | false =>
      constructor
      ·
       intro h; simp at h
      ·
       rintro ⟨⟨h1, _⟩, h3⟩
       cases hr : run (occ k (ss.headD 0)) vs with
       | none => rw [hr] at h3; cases h3
       | some v =>
        have := (hk v).2 ⟨h1, hr⟩;rw [hq] at this
        injection this with this _; cases this
     | true =>
      obtain ⟨h1, h2⟩ := (hk v1).1 hq;rw [h2];simp only [if_true, h1, true_and];rw [hks v1 vs', run_len h2]
   constructor
   ·
    intro h
    split at h
    ·
     rename_i hc;obtain ⟨k1, k2⟩ := (key _ vs vs').1 h;exact ⟨by rw [decide_eq_true hc, k1]; rfl, k2⟩
    ·
     injection h with h _; cases h
   ·
    rintro ⟨h1, h2⟩;rw [Bool.and_eq_true, decide_eq_true_eq] at h1;rw [if_pos h1.1];exact (key _ vs vs').2 ⟨h1.2, h2⟩
  ·
   rw [vPt_var hv, shp_var hv, occ_var hv];simp only [run, run1]
   by_cases hb : p.v < 1 ∨ p.v > vs.length ∨ p.op ≠ 0 ∨ p.imm ≠ 0 ∨ p.iv ≠ 0 ∨ 0 < p.kids.length
   ·
    rw [if_pos hb, decide_eq_false (fun q => q hb)]; simp
   ·
    rw [if_neg hb, decide_eq_true hb]
    by_cases h0 : vs.getD (p.v - 1).toNat 0 = 0
    ·
     rw [if_pos h0, if_pos h0]; simp
    ·
     rw [if_neg h0, if_neg h0]
     by_cases h1 : s = 0 ∨ s = vs.getD (p.v - 1).toNat 0
     ·
      rw [if_pos h1, decide_eq_true h1]; simp
     ·
      rw [if_neg h1, decide_eq_false h1]; simp
def InR (n : Nat) (l : List (Int × Int)) : Prop := ∀ t ∈ l, 1 ≤ t.1 ∧ t.1 ≤ n ∧ (t.2 = 1 ∨ t.2 = 2)
theorem osort_kid {op : Int} : ∀ x ∈ (oSortsF op).1, x = 1 ∨ x = 2 := by
 intro x hx;unfold oSortsF at hx
 (repeat' split at hx) <;> simp at hx <;> omega
theorem osort_own {op : Int} (h : (oSortsF op).2.2 = true) : (oSortsF op).2.1 = 1 ∨ (oSortsF op).2.1 = 2 := by
 unfold oSortsF at h ⊢
 (repeat' split at h) <;> (repeat' split) <;> simp_all
theorem shp_inR (p : Pt) : ∀ (s m : Int) (n : Nat), shp p s m n = true → (s = 1 ∨ s = 2 ∨ p.v = 0) → InR n (occ p s) := by
 induction p using Pt.ind with
 | h p ih =>
  intro s m n h hs
  by_cases hv : p.v = 0
  ·
   rw [shp_op hv, Bool.and_eq_true, decide_eq_true_eq] at h;rw [occ_op hv]
   have hl : p.kids.length ≤ (oSortsF p.op).1.length := by omega
   have key : ∀ ss, (fun (ks : List Pt) (ss : List Int) => ks.length ≤ ss.length → (∀ x ∈ ss, x = 1 ∨ x = 2) → shpL ks ss m n = true → InR n (occL ks ss)) p.kids ss := by
    refine Pt.indL (Q := fun k => ∀ (s m : Int) (n : Nat), shp k s m n = true → (s = 1 ∨ s = 2 ∨ k.v = 0) → InR n (occ k s)) (QL := fun (ks : List Pt) (ss : List Int) => ks.length ≤ ss.length → (∀ x ∈ ss, x = 1 ∨ x = 2) → shpL ks ss m n = true → InR n (occL ks ss)) ?_ ?_ _ ih
    ·
     intro ss _ _ _ t ht; simp [occL] at ht
    ·
     intro k ks ss hk hks h1 h2 h3 t ht;rw [shpL, Bool.and_eq_true] at h3;rw [occL] at ht
     cases ss with
     | nil => simp at h1
     | cons x ss =>
      rcases List.mem_append.1 ht with ht | ht
      ·
       have := h2 x (by simp);exact hk x m n h3.1 (by omega) t ht
      ·
       exact hks (by simpa using h1) (fun y hy => h2 y (List.mem_cons_of_mem _ hy)) h3.2 t ht
   exact key _ hl osort_kid h.2
  ·
   rw [shp_var hv, decide_eq_true_eq] at h;rw [occ_var hv];intro t ht;simp only [List.mem_singleton] at ht;subst ht;exact ⟨by omega, by omega, by omega⟩
theorem set_getD {vs : List Int} {i j : Nat} {x : Int} (hi : i < vs.length) : (vs.set i x).getD j 0 = if i = j then x else vs.getD j 0 := by
 by_cases e : i = j
 ·
  subst e; rw [if_pos rfl]; simp [List.getD, hi]
 ·
  rw [if_neg e]; simp [List.getD, e]
theorem run_sound : ∀ {l : List (Int × Int)} {vs vs' : List Int}, InR vs.length l → run l vs = some vs' → (∀ i, vs.getD i 0 ≠ 0 → vs'.getD i 0 = vs.getD i 0) ∧ ∀ t ∈ l, vs'.getD (t.1 - 1).toNat 0 = t.2
 | [], vs, vs', _, h => by injection h with h; subst h; exact ⟨fun _ _ => rfl, by simp⟩
 | t :: l, vs, vs', hr, h => by
  have ht := hr t (by simp);simp only [run] at h
  split at h
  ·
   cases h
  ·
   rename_i v hv;have hl := run1_len hv;obtain ⟨i1, i2⟩ := run_sound (fun x hx => by rw [hl]; exact hr x (List.mem_cons_of_mem _ hx)) h
   have k1 : ∀ i, vs.getD i 0 ≠ 0 → v.getD i 0 = vs.getD i 0 := by
    unfold run1 at hv
    split at hv
    ·
     injection hv with hv; subst hv
     intro i hi;rw [set_getD (by omega)]
     split
     ·
      rename_i e q; rw [q] at e; exact absurd e hi
     ·
      rfl
    ·
     split at hv
     ·
      injection hv with hv; subst hv; exact fun _ _ => rfl
     ·
      cases hv
   have k2 : v.getD (t.1 - 1).toNat 0 = t.2 := by
    unfold run1 at hv
    split at hv
    ·
     injection hv with hv; subst hv
     rw [set_getD (by omega), if_pos rfl]
    ·
     split at hv
     ·
      rename_i q1 q2
      injection hv with hv; subst hv
      rcases q2 with q2 | q2
      ·
       omega
      ·
       exact q2.symm
     ·
      cases hv
   refine ⟨fun i hi => ?_, fun x hx => ?_⟩
   ·
    rw [i1 i (by rw [k1 i hi]; exact hi), k1 i hi]
   ·
    rcases List.mem_cons.1 hx with rfl | hx
    ·
     rw [i1 _ (by rw [k2]; omega), k2]
    ·
     exact i2 x hx
theorem run_some (f : Int → Int) : ∀ {l : List (Int × Int)} {vs : List Int}, InR vs.length l → (∀ t ∈ l, t.2 = f t.1) → (∀ i : Nat, vs.getD i 0 = 0 ∨ vs.getD i 0 = f ((i : Int) + 1)) →
  ∃ vs', run l vs = some vs' ∧ (∀ i : Nat, vs'.getD i 0 = 0 ∨ vs'.getD i 0 = f ((i : Int) + 1)) ∧ ∀ i : Nat, vs.getD i 0 = 0 → (∀ t ∈ l, t.1 ≠ (i : Int) + 1) → vs'.getD i 0 = 0
 | [], vs, _, _, h => ⟨vs, rfl, h, fun _ q _ => q⟩
 | t :: l, vs, hr, hf, h => by
  have ht := hr t (by simp);have hft := hf t (by simp)
  have hidx : (((t.1 - 1).toNat : Nat) : Int) + 1 = t.1 := by omega
  have h1 : ∃ v, run1 vs t = some v ∧ (∀ i : Nat, v.getD i 0 = 0 ∨ v.getD i 0 = f ((i : Int) + 1)) ∧ ∀ i : Nat, vs.getD i 0 = 0 → t.1 ≠ (i : Int) + 1 → v.getD i 0 = 0 := by
   unfold run1
   by_cases q : vs.getD (t.1 - 1).toNat 0 = 0
   ·
    rw [if_pos q];refine ⟨_, rfl, fun i => ?_, fun i hi hne => ?_⟩
    ·
     rw [set_getD (by omega)]
     split
     ·
      rename_i e; right; rw [← e, hidx]; exact hft
     ·
      exact h i
    ·
     rw [set_getD (by omega), if_neg (by omega)]; exact hi
   ·
    rw [if_neg q];have := h (t.1 - 1).toNat;rw [hidx] at this;rw [if_pos (Or.inr (by omega))];exact ⟨vs, rfl, h, fun i hi _ => hi⟩
  obtain ⟨v, e, g1, g2⟩ := h1
  obtain ⟨vs', r1, r2, r3⟩ := run_some f (l := l) (vs := v) (fun x hx => by rw [run1_len e]; exact hr x (List.mem_cons_of_mem _ hx)) (fun x hx => hf x (List.mem_cons_of_mem _ hx)) g1
  refine ⟨vs', ?_, r2, fun i hi hne => ?_⟩
  ·
   simp only [run, e, r1]
  ·
   exact r3 i (g2 i hi (hne t (by simp))) (fun x hx => hne x (List.mem_cons_of_mem _ hx))
end Go.Proofs.YtblkgjdhaibhgaaGreat
namespace Go.Proofs.YtblkgjdhaibhgaaGreat
open Go.RowKit
structure Cd where
 kind : Int
 a : Int
 b : Int
 n : Int
deriving DecidableEq
structure Rl where
 name : ByteArray
 l : Pt
 r : Pt
 conds : List Cd
 vars : Int
 imms : Int
def nmCh (c : UInt8) : Bool := decide (97 ≤ c.toNat ∧ c.toNat ≤ 122 ∨ 48 ≤ c.toNat ∧ c.toNat ≤ 57 ∨ c.toNat = 45)
def nameF (s : ByteArray) : Bool := s.data.toList.all nmCh && decide (1 ≤ s.size ∧ s.size ≤ 16)
def isValF (ss : List Int) (n : Int) : Bool := decide (1 ≤ n ∧ n < ss.length ∧ ss.getD n.toNat 0 = 1)
def isImmF (m n : Int) : Bool := decide (1 ≤ n ∧ n ≤ m)
def condF (c : Cd) (ss : List Int) (m : Int) : Bool :=
 if c.kind = 1 then isValF ss c.a && decide (c.b = 0) && decide (c.n = 0)
 else if c.kind = 2 ∨ c.kind = 3 then isValF ss c.a && decide (c.b = 0)
 else if c.kind = 4 then isValF ss c.a && isValF ss c.b && decide (c.a ≠ c.b) && decide (c.n = 0)
 else if c.kind = 5 then isValF ss c.a && isImmF m c.b && decide (c.n = 0)
 else if c.kind = 6 then isImmF m c.a && isImmF m c.b && decide (c.a ≠ c.b) && decide (c.n = 0)
 else false
theorem condF_congr {c : Cd} {ss ss' : List Int} {m : Int} (hl : ss.length = ss'.length) (h : ∀ i : Nat, 1 ≤ i → i < ss.length → (ss.getD i 0 = 1 ↔ ss'.getD i 0 = 1)) : condF c ss m = condF c ss' m := by
 have e : ∀ n, isValF ss n = isValF ss' n := fun n => by
  unfold isValF;rw [← hl]
  by_cases q : 1 ≤ n ∧ n < ss.length
  ·
   have := h n.toNat (by omega) (by omega);rw [Bool.eq_iff_iff, decide_eq_true_iff, decide_eq_true_iff, this]
  ·
   rw [decide_eq_false (fun r => q ⟨r.1, r.2.1⟩), decide_eq_false (fun r => q ⟨r.1, r.2.1⟩)]
 unfold condF;rw [e, e]
def orB (a b : Int) : Int := bits BinOp.or IntKind.i64 a b
def colV (l : List (Int × Int)) (vs : List Int) : List Int := l.foldl (fun vs t => vs.set t.1.toNat (orB (vs.getD t.1.toNat 0) t.2)) vs
def occI (p : Pt) : List Int := ((nodes p).filter fun q => decide (q.v = 0)).map Pt.iv
def colI (l : List Int) (ms : List Int) : List Int := l.foldl (fun ms i => ms.set i.toNat 1) ms
def rsF (op : Int) : List Int × Int :=
 if op = 23 then ([2, 1, 0], 1) else if op = 24 then ([2, 0, 0], 1) else if op = 27 ∨ op = 29 then ([2, 1, 0], 2) else if op = 28 then ([2, 1, 1], 2) else ([1, 1, 1], 1)
theorem rs_parts {op : Int} (h : (oSortsF op).2.2 = true) : (rsF op).2 = (oSortsF op).2.1 ∧ (oSortsF op).1.length ≤ 3 ∧ ∀ i (hi : i < (oSortsF op).1.length), (rsF op).1.getD i 0 = (oSortsF op).1[i] := by
 have ho : op = 1 ∨ op = 23 ∨ op = 24 ∨ op = 27 ∨ op = 29 ∨ op = 28 ∨ op = 20 ∨ op = 21 ∨ op = 22 ∨ (4 ≤ op ∧ op ≤ 19) := by
  rw [← allowed_ok] at h;simp only [allowedF, decide_eq_true_iff] at h;omega
 have fin : ∀ (l l' : List Int) (x : Int) (b : Bool), oSortsF op = (l, x, b) → rsF op = (l', x) → l.length ≤ 3 → (∀ i (hi : i < l.length), l'.getD i 0 = l[i]) → (rsF op).2 = (oSortsF op).2.1 ∧ (oSortsF op).1.length ≤ 3 ∧ ∀ i (hi : i < (oSortsF op).1.length), (rsF op).1.getD i 0 = (oSortsF op).1[i] := fun l l' x b e e' h1 h2 => by
  refine ⟨by rw [e, e'], by rw [e]; exact h1, ?_⟩;rw [e, e']; exact h2
 rcases ho with rfl | rfl | rfl | rfl | rfl | rfl | rfl | rfl | rfl | hr
 ·
  exact fin [] [1, 1, 1] 1 true rfl rfl (by simp) (fun i hi => by simp at hi)
 ·
  exact fin [2, 1] [2, 1, 0] 1 true rfl rfl (by simp) (fun i hi => by match i, hi with | 0, _ => rfl | 1, _ => rfl)
 ·
  exact fin [2] [2, 0, 0] 1 true rfl rfl (by simp) (fun i hi => by match i, hi with | 0, _ => rfl)
 ·
  exact fin [2, 1] [2, 1, 0] 2 true rfl rfl (by simp) (fun i hi => by match i, hi with | 0, _ => rfl | 1, _ => rfl)
 ·
  exact fin [2, 1] [2, 1, 0] 2 true rfl rfl (by simp) (fun i hi => by match i, hi with | 0, _ => rfl | 1, _ => rfl)
 ·
  exact fin [2, 1, 1] [2, 1, 1] 2 true rfl rfl (by simp) (fun i hi => by match i, hi with | 0, _ => rfl | 1, _ => rfl | 2, _ => rfl)
 ·
  exact fin [1] [1, 1, 1] 1 true rfl rfl (by simp) (fun i hi => by match i, hi with | 0, _ => rfl)
 ·
  exact fin [1] [1, 1, 1] 1 true rfl rfl (by simp) (fun i hi => by match i, hi with | 0, _ => rfl)
 ·
  exact fin [1, 1, 1] [1, 1, 1] 1 true rfl rfl (by simp) (fun i hi => by match i, hi with | 0, _ => rfl | 1, _ => rfl | 2, _ => rfl)
 ·
  refine fin [1, 1] [1, 1, 1] 1 true ?_ ?_ (by simp) (fun i hi => by match i, hi with | 0, _ => rfl | 1, _ => rfl)
  ·
   unfold oSortsF;rw [if_neg (by omega), if_neg (by omega), if_neg (by omega), if_neg (by omega), if_neg (by omega), if_pos (by omega), if_neg (by omega), if_neg (by omega)]
  ·
   unfold rsF;rw [if_neg (by omega), if_neg (by omega), if_neg (by omega), if_neg (by omega)]
def implG (r : Rl) : Bool :=
 (((colV (occ r.l (rsF r.l.op).2) (List.replicate (r.vars.toNat + 1) 0)).drop 1).all fun x => decide (x ≠ 0)) &&
 (((colI (occI r.l) (List.replicate (r.imms.toNat + 1) 0)).drop 1).all fun x => decide (x ≠ 0)) &&
 (decide (r.r.v ≠ 0) || decide ((rsF r.r.op).2 = (rsF r.l.op).2)) &&
 (((colV (occ r.r (rsF r.l.op).2) (colV (occ r.l (rsF r.l.op).2) (List.replicate (r.vars.toNat + 1) 0))).drop 1).all fun x => decide (x ≠ 3)) &&
 (r.conds.all fun c => condF c (colV (occ r.r (rsF r.l.op).2) (colV (occ r.l (rsF r.l.op).2) (List.replicate (r.vars.toNat + 1) 0))) r.imms)
def implF (r : Rl) : Bool := decide (r.l.v = 0) && validF r.l r.vars r.imms && validF r.r r.vars r.imms && nameF r.name && decide (r.conds.length ≤ 6) && implG r
def markV (l : List Pt) (bs : List Bool) : List Bool := l.foldl (fun bs q => if 0 < q.v ∧ q.v < (bs.length : Int) then bs.set q.v.toNat true else bs) bs
def markI (l : List Pt) (bs : List Bool) : List Bool := l.foldl (fun bs q => if 0 < q.iv ∧ q.iv < (bs.length : Int) then bs.set q.iv.toNat true else bs) bs
def refF (r : Rl) : Bool :=
 decide (0 ≤ r.vars ∧ r.vars ≤ 6 ∧ 0 ≤ r.imms ∧ r.imms ≤ 6) && nameF r.name && decide (r.conds.length ≤ 6) && decide (r.l.v = 0 ∧ r.l.size ≤ 24 ∧ r.r.size ≤ 24) &&
 (vPt r.l 0 r.imms (List.replicate r.vars.toNat 0)).1 && (vPt r.r (pSortF r.l.op) r.imms (vPt r.l 0 r.imms (List.replicate r.vars.toNat 0)).2).1 &&
 ((markV (nodes r.l) (List.replicate (r.vars.toNat + 1) false)).drop 1).all id && ((markI (nodes r.l) (List.replicate (r.imms.toNat + 1) false)).drop 1).all id &&
 (r.conds.all fun c => condF c (0 :: (vPt r.r (pSortF r.l.op) r.imms (vPt r.l 0 r.imms (List.replicate r.vars.toNat 0)).2).2) r.imms)
def code (a b : Bool) : Int := (if a then 1 else 0) + (if b then 2 else 0)
theorem orB_code : ∀ a b : Bool, orB (code a b) 1 = code true b ∧ orB (code a b) 2 = code a true := by decide +kernel
def hasO (l : List (Int × Int)) (i s : Int) : Bool := decide ((i, s) ∈ l)
theorem colV_len : ∀ (l : List (Int × Int)) (vs : List Int), (colV l vs).length = vs.length
 | [], _ => rfl
 | t :: l, vs => by
  show (colV l _).length = _;rw [colV_len l]; simp
theorem colV_code : ∀ {l : List (Int × Int)} {vs : List Int} {n : Nat} (fa fb : Nat → Bool), vs.length = n + 1 → InR n l → (∀ i : Nat, i < n + 1 → vs.getD i 0 = code (fa i) (fb i)) → ∀ i : Nat, i < n + 1 → (colV l vs).getD i 0 = code (fa i || hasO l i 1) (fb i || hasO l i 2)
 | [], vs, n, fa, fb, _, _, h => fun i hi => by
  show vs.getD i 0 = _;rw [h i hi];simp [hasO]
 | t :: l, vs, n, fa, fb, hl, hr, h => fun i hi => by
  obtain ⟨a1, a2, a3⟩ := hr t (by simp);obtain ⟨j, hj⟩ : ∃ j : Nat, t.1 = (j : Int) := Int.eq_ofNat_of_zero_le (by omega)
  have hjn : j < n + 1 := by omega
  have hv := h j hjn
  have key : ∀ k : Nat, k < n + 1 → (vs.set t.1.toNat (orB (vs.getD t.1.toNat 0) t.2)).getD k 0 = code (fa k || decide ((k : Int) = t.1 ∧ t.2 = 1)) (fb k || decide ((k : Int) = t.1 ∧ t.2 = 2)) := by
   intro k hk;rw [hj, Int.toNat_natCast, set_getD (by omega), hv];have oc := orB_code (fa j) (fb j)
   by_cases e : j = k
   ·
    subst e;rw [if_pos rfl]
    rcases a3 with q | q
    ·
     rw [q, oc.1]; simp
    ·
     rw [q, oc.2]; simp
   ·
    rw [if_neg e, h k hk]
    have e2 : ¬((k : Int) = (j : Int)) := by omega
    simp [e2]
  show (colV l (vs.set t.1.toNat (orB (vs.getD t.1.toNat 0) t.2))).getD i 0 = _;rw [colV_code _ _ (by simpa using hl) (fun x hx => hr x (List.mem_cons_of_mem _ hx)) key i hi]
  have e1 : hasO (t :: l) i 1 = (decide ((i : Int) = t.1 ∧ t.2 = 1) || hasO l i 1) := by
   unfold hasO;rw [Bool.eq_iff_iff];simp only [decide_eq_true_eq, Bool.or_eq_true, List.mem_cons, Prod.ext_iff];constructor
   ·
    rintro (⟨x, y⟩ | h); exact .inl ⟨x, y.symm⟩; exact .inr h
   ·
    rintro (⟨x, y⟩ | h); exact .inl ⟨x, y.symm⟩; exact .inr h
  have e2 : hasO (t :: l) i 2 = (decide ((i : Int) = t.1 ∧ t.2 = 2) || hasO l i 2) := by
   unfold hasO;rw [Bool.eq_iff_iff];simp only [decide_eq_true_eq, Bool.or_eq_true, List.mem_cons, Prod.ext_iff];constructor
   ·
    rintro (⟨x, y⟩ | h); exact .inl ⟨x, y.symm⟩; exact .inr h
   ·
    rintro (⟨x, y⟩ | h); exact .inl ⟨x, y.symm⟩; exact .inr h
  rw [e1, e2, Bool.or_assoc, Bool.or_assoc]
theorem colV_zero {l : List (Int × Int)} {n : Nat} (hr : InR n l) (i : Nat) (hi : i < n + 1) : (colV l (List.replicate (n + 1) 0)).getD i 0 = code (hasO l i 1) (hasO l i 2) := by
 have := colV_code (fun _ => false) (fun _ => false) (vs := List.replicate (n + 1) 0) (by simp) hr (fun i hi => by simp [List.getD, code, hi]) i hi
 simpa using this
theorem colV_app (a b : List (Int × Int)) (vs : List Int) : colV b (colV a vs) = colV (a ++ b) vs := by simp [colV]
theorem colI_len : ∀ (l : List Int) (ms : List Int), (colI l ms).length = ms.length
 | [], _ => rfl
 | t :: l, ms => by
  show (colI l _).length = _;rw [colI_len l]; simp
theorem colI_mem : ∀ {l : List Int} {ms : List Int} {m : Nat}, ms.length = m + 1 → (∀ x ∈ l, 0 ≤ x ∧ x ≤ m) → ∀ i : Nat, i < m + 1 → ((colI l ms).getD i 0 ≠ 0 ↔ ms.getD i 0 ≠ 0 ∨ (i : Int) ∈ l)
 | [], ms, m, _, _ => fun i _ => by simp [colI]
 | t :: l, ms, m, hl, hr => fun i hi => by
  have a := hr t (by simp);show (colI l (ms.set t.toNat 1)).getD i 0 ≠ 0 ↔ _;rw [colI_mem (by simpa using hl) (fun x hx => hr x (List.mem_cons_of_mem _ hx)) i hi, set_getD (by omega)]
  by_cases e : t.toNat = i
  ·
   rw [if_pos e]
   have : (i : Int) = t := by omega
   simp [this]
  ·
   rw [if_neg e]
   have : ¬((i : Int) = t) := by omega
   simp [this]
theorem mark_get (g : Pt → Int) : ∀ (l : List Pt) (bs : List Bool) (i : Nat), (l.foldl (fun bs q => if 0 < g q ∧ g q < bs.length then bs.set (g q).toNat true else bs) bs).length = bs.length ∧ (1 ≤ i → i < bs.length → ((l.foldl (fun bs q => if 0 < g q ∧ g q < bs.length then bs.set (g q).toNat true else bs) bs).getD i false = true ↔ bs.getD i false = true ∨ ∃ q ∈ l, g q = (i : Int)))
 | [], bs, i => ⟨rfl, fun _ _ => by simp⟩
 | t :: l, bs, i => by
  have hs : (if 0 < g t ∧ g t < bs.length then bs.set (g t).toNat true else bs).length = bs.length := by split <;> simp
  obtain ⟨i1, i2⟩ := mark_get g l (if 0 < g t ∧ g t < bs.length then bs.set (g t).toNat true else bs) i;refine ⟨i1.trans hs, fun h1 h2 => ?_⟩;rw [List.foldl_cons, i2 h1 (by omega)]
  have : (if 0 < g t ∧ g t < bs.length then bs.set (g t).toNat true else bs).getD i false = true ↔ bs.getD i false = true ∨ g t = (i : Int) := by
   by_cases q : 0 < g t ∧ g t < bs.length
   ·
    rw [if_pos q]
    by_cases e : (g t).toNat = i
    ·
     have : g t = (i : Int) := by omega
     simp [List.getD, h2, this]
    ·
     have : ¬(g t = (i : Int)) := by omega
     simp [List.getD, e, this]
   ·
    rw [if_neg q]
    have : ¬(g t = (i : Int)) := by omega
    simp [this]
  rw [this];simp only [List.mem_cons, exists_eq_or_imp, or_assoc]
theorem all_drop {α : Type} {l : List α} {n : Nat} {d : α} {f : α → Bool} (hl : l.length = n + 1) : (l.drop 1).all f = true ↔ ∀ i : Nat, 1 ≤ i → i ≤ n → f (l.getD i d) = true := by
 rw [List.all_eq_true];constructor
 ·
  intro h i h1 h2
  have : l.getD i d ∈ l.drop 1 := by
   rw [getD_of (by omega : i < l.length)];rw [List.mem_iff_getElem];exact ⟨i - 1, by simp; omega, by simp; congr 1; omega⟩
  exact h _ this
 ·
  intro h x hx;obtain ⟨i, hi, rfl⟩ := List.mem_iff_getElem.1 hx
  have h3 : i < l.length - 1 := by simpa using hi
  have := h (1 + i) (by omega) (by omega);rw [getD_of (by omega : 1 + i < l.length)] at this
  simpa [Nat.add_comm] using this
theorem shp_nodes (p : Pt) : ∀ (s m : Int) (n : Nat), shp p s m n = true → (∀ i, i ≠ 0 → ((∃ q ∈ nodes p, q.v = i) ↔ ∃ s', (i, s') ∈ occ p s)) ∧ (∀ q ∈ nodes p, (q.v ≠ 0 → q.iv = 0) ∧ (0 ≤ m → 0 ≤ q.iv ∧ q.iv ≤ m) ∧ q.kids.length ≤ 3) := by
 induction p using Pt.ind with
 | h p ih =>
  intro s m n h;rw [nodes_eq]
  by_cases hv : p.v = 0
  ·
   rw [shp_op hv, Bool.and_eq_true, decide_eq_true_eq] at h;obtain ⟨⟨h1, h2, _, h4⟩, h5⟩ := h;rw [occ_op hv]
   have key := Pt.indL (Q := fun k => ∀ (s m : Int) (n : Nat), shp k s m n = true → (∀ i, i ≠ 0 → ((∃ q ∈ nodes k, q.v = i) ↔ ∃ s', (i, s') ∈ occ k s)) ∧ (∀ q ∈ nodes k, (q.v ≠ 0 → q.iv = 0) ∧ (0 ≤ m → 0 ≤ q.iv ∧ q.iv ≤ m) ∧ q.kids.length ≤ 3))
    (QL := fun (ks : List Pt) (ss : List Int) => shpL ks ss m n = true → (∀ i, i ≠ 0 → ((∃ q ∈ nodesL ks, q.v = i) ↔ ∃ s', (i, s') ∈ occL ks ss)) ∧ (∀ q ∈ nodesL ks, (q.v ≠ 0 → q.iv = 0) ∧ (0 ≤ m → 0 ≤ q.iv ∧ q.iv ≤ m) ∧ q.kids.length ≤ 3))
    (fun ss _ => ⟨fun i _ => by simp [nodesL, occL], fun q hq => by simp [nodesL] at hq⟩)
    (fun k ks ss hk hks h => by
     rw [shpL, Bool.and_eq_true] at h;obtain ⟨a1, a2⟩ := hk _ _ _ h.1;obtain ⟨b1, b2⟩ := hks h.2;refine ⟨fun i hi => ?_, fun q hq => ?_⟩
     ·
      simp only [nodesL, occL, List.mem_append, or_and_right, exists_or];rw [a1 i hi, b1 i hi]
     ·
      rw [nodesL] at hq
      rcases List.mem_append.1 hq with hq | hq
      ·
       exact a2 q hq
      ·
       exact b2 q hq) p.kids ih _ h5
   obtain ⟨k1, k2⟩ := key;refine ⟨fun i hi => ?_, fun q hq => ?_⟩
   ·
    rw [← k1 i hi];simp only [List.mem_cons, exists_eq_or_imp];constructor
    ·
     rintro (h | h)
     ·
      omega
     ·
      exact h
    ·
     exact .inr
   ·
    rcases List.mem_cons.1 hq with rfl | hq
    ·
     refine ⟨fun q => absurd hv q, fun hm => ?_, ?_⟩
     ·
      by_cases h0 : q.iv = 0
      ·
       omega
      ·
       have : pImmF q m = (hasImmF q.op && decide (q.imm = 0 ∧ 1 ≤ q.iv ∧ q.iv ≤ m)) := if_pos h0;rw [this, Bool.and_eq_true, decide_eq_true_eq] at h4;omega
     ·
      have := (rs_parts h1).2.1;omega
    ·
     exact k2 q hq
  ·
   rw [shp_var hv, decide_eq_true_eq] at h;have hk : p.kids = [] := List.eq_nil_of_length_eq_zero (by omega);rw [occ_var hv, hk];refine ⟨fun i hi => ?_, fun q hq => ?_⟩
   ·
    simp only [nodesL, List.mem_singleton, exists_eq_left, Prod.mk.injEq];constructor
    ·
     rintro rfl; exact ⟨s, rfl, rfl⟩
    ·
     rintro ⟨_, h, _⟩; exact h.symm
   ·
    simp only [nodesL, List.mem_singleton] at hq;subst hq;refine ⟨fun _ => by omega, fun _ => by omega, by rw [hk]; simp⟩
theorem shp_sort {p : Pt} {s m : Int} {n : Nat} (h : shp p s m n = true) : shp p 0 m n = true := by
 by_cases hv : p.v = 0
 ·
  rw [shp_op hv, Bool.and_eq_true, decide_eq_true_eq] at h ⊢;exact ⟨⟨h.1.1, h.1.2.1, .inl rfl, h.1.2.2.2⟩, h.2⟩
 ·
  rw [shp_var hv] at h ⊢; exact h
theorem shp_own {p : Pt} {s m : Int} {n : Nat} (h : shp p 0 m n = true) (hs : p.v = 0 → s = (oSortsF p.op).2.1) : shp p s m n = true := by
 by_cases hv : p.v = 0
 ·
  rw [shp_op hv, Bool.and_eq_true, decide_eq_true_eq] at h ⊢;exact ⟨⟨h.1.1, h.1.2.1, .inr (hs hv), h.1.2.2.2⟩, h.2⟩
 ·
  rw [shp_var hv] at h ⊢; exact h
theorem shp_ok {p : Pt} {s m : Int} {n : Nat} (hv : p.v = 0) (h : shp p s m n = true) : (oSortsF p.op).2.2 = true := by
 rw [shp_op hv, Bool.and_eq_true, decide_eq_true_eq] at h;exact h.1.1
theorem shp_root {p : Pt} {s m : Int} {n : Nat} (h : shp p s m n = true) (hs : s ≠ 0) (hv : p.v = 0) : s = (oSortsF p.op).2.1 := by
 rw [shp_op hv, Bool.and_eq_true, decide_eq_true_eq] at h;omega
structure RuleOk (r : Rl) : Prop where
 vars : 0 ≤ r.vars ∧ r.vars ≤ 6
 imms : 0 ≤ r.imms ∧ r.imms ≤ 6
 name : nameF r.name = true
 few : r.conds.length ≤ 6
 root : r.l.v = 0
 sizes : r.l.size ≤ 24 ∧ r.r.size ≤ 24
 shl : shp r.l 0 r.imms r.vars.toNat = true
 shr : shp r.r (oSortsF r.l.op).2.1 r.imms r.vars.toNat = true
 all : ∀ i : Nat, 1 ≤ i → i ≤ r.vars.toNat → ∃ s, ((i : Int), s) ∈ occ r.l 0
 one : ∀ i s s', (i, s) ∈ occ r.l 0 ++ occ r.r (oSortsF r.l.op).2.1 → (i, s') ∈ occ r.l 0 ++ occ r.r (oSortsF r.l.op).2.1 → s = s'
 im : ∀ i : Nat, 1 ≤ i → i ≤ r.imms.toNat → (i : Int) ∈ occI r.l
 cnd : ∀ c ∈ r.conds, condF c (0 :: (List.range r.vars.toNat).map fun (i : Nat) => if ((i : Int) + 1, (1 : Int)) ∈ occ r.l 0 then (1 : Int) else 2) r.imms = true
end Go.Proofs.YtblkgjdhaibhgaaGreat
namespace Go.Proofs.YtblkgjdhaibhgaaGreat
open Go.RowKit
theorem sorts_get {n : Nat} {f : Nat → Int} {i : Nat} (h1 : 1 ≤ i) (h2 : i ≤ n) : (0 :: (List.range n).map f).getD i 0 = f (i - 1) := by
 obtain ⟨k, rfl⟩ : ∃ k, i = k + 1 := ⟨i - 1, by omega⟩;simp [List.getD, show k < n by omega]
theorem vPt_fst {p : Pt} {s m : Int} {vs : List Int} : (vPt p s m vs).1 = true ↔ ∃ v, shp p s m vs.length = true ∧ run (occ p s) vs = some v := by
 constructor
 ·
  intro h;exact ⟨_, (vPt_iff p s m vs (vPt p s m vs).2).1 (by rw [← h])⟩
 ·
  rintro ⟨v, h⟩;rw [(vPt_iff p s m vs v).2 h]
theorem occ_root {p : Pt} (h : p.v = 0) (s t : Int) : occ p s = occ p t := by rw [occ_op h, occ_op h]
theorem InR.app {n : Nat} {a b : List (Int × Int)} (h : InR n a) (g : InR n b) : InR n (a ++ b) := fun t ht => (List.mem_append.1 ht).elim (h t) (g t)
theorem zeros_get (n i : Nat) : (List.replicate n (0 : Int)).getD i 0 = 0 := by
 simp only [List.getD, List.getElem?_replicate]
 split <;> rfl
section
variable {r : Rl}
theorem RuleOk.own (h : RuleOk r) : (oSortsF r.l.op).2.1 = 1 ∨ (oSortsF r.l.op).2.1 = 2 := osort_own (shp_ok h.root h.shl)
theorem RuleOk.inL (h : RuleOk r) : InR r.vars.toNat (occ r.l 0) := shp_inR _ _ _ _ h.shl (.inr (.inr h.root))
theorem RuleOk.inR (h : RuleOk r) : InR r.vars.toNat (occ r.r (oSortsF r.l.op).2.1) := shp_inR _ _ _ _ h.shr (by have := h.own; omega)
theorem RuleOk.srt (h : RuleOk r) : ∀ t ∈ occ r.l 0 ++ occ r.r (oSortsF r.l.op).2.1, t.2 = if (t.1, (1 : Int)) ∈ occ r.l 0 then 1 else 2 := by
 intro t ht;have hr := h.inL.app h.inR t ht;obtain ⟨s, hs⟩ := h.all t.1.toNat (by omega) (by omega);rw [show ((t.1.toNat : Nat) : Int) = t.1 by omega] at hs;have e := h.one t.1 t.2 s ht (List.mem_append_left _ hs)
 split
 ·
  rename_i q;exact h.one t.1 t.2 1 ht (List.mem_append_left _ q)
 ·
  rename_i q
  rcases hr.2.2 with q2 | q2
  ·
   exfalso; exact q (by rw [← e, q2] at hs; exact hs)
  ·
   exact q2
theorem sorts_len (n : Nat) (f : Nat → Int) : (0 :: (List.range n).map f).length = n + 1 := by simp
theorem imp_ok (h : implF r = true) : RuleOk r := by
 unfold implF implG at h;simp only [Bool.and_eq_true, decide_eq_true_eq, Bool.or_eq_true] at h;obtain ⟨⟨⟨⟨⟨h1, h2⟩, h3⟩, h4⟩, h5⟩, ⟨⟨⟨⟨g1, g2⟩, g3⟩, g4⟩, g5⟩⟩ := h;unfold validF at h2 h3;simp only [Bool.and_eq_true, decide_eq_true_eq] at h2 h3;obtain ⟨v1, a1, a2⟩ := vPt_fst.1 h2.2;obtain ⟨v2, b1, b2⟩ := vPt_fst.1 h3.2;rw [List.length_replicate] at a1 b1;have ho := shp_ok h1 a1
 have hown := (rs_parts ho).1;have hown12 := osort_own ho;have hl := shp_inR _ _ _ _ a1 (.inr (.inr h1))
 have hsr : shp r.r (oSortsF r.l.op).2.1 r.imms r.vars.toNat = true := shp_own b1 (fun hv => by
  rcases g3 with q | q
  ·
   exact absurd hv q
  ·
   rw [← hown, ← q]; exact (rs_parts (shp_ok hv b1)).1)
 have hr := shp_inR _ _ _ _ hsr (by omega);rw [hown, occ_root h1 _ 0] at g1 g4 g5;rw [colV_app] at g4 g5;have hlr := hl.app hr;rw [all_drop (n := r.vars.toNat) (d := 0) (by rw [colV_len]; simp)] at g1 g4
 have hone : ∀ i s s', (i, s) ∈ occ r.l 0 ++ occ r.r (oSortsF r.l.op).2.1 → (i, s') ∈ occ r.l 0 ++ occ r.r (oSortsF r.l.op).2.1 → s = s' := by
  intro i s s' k1 k2;have q1 := hlr _ k1;have q2 := hlr _ k2;have := g4 i.toNat (by omega) (by omega);rw [decide_eq_true_eq, colV_zero hlr _ (by omega)] at this
  have e : ((i.toNat : Nat) : Int) = i := by omega
  rw [e] at this
  have : ¬((i, (1 : Int)) ∈ occ r.l 0 ++ occ r.r (oSortsF r.l.op).2.1 ∧ (i, (2 : Int)) ∈ occ r.l 0 ++ occ r.r (oSortsF r.l.op).2.1) := by
   rintro ⟨x, y⟩;apply this;unfold hasO;rw [decide_eq_true x, decide_eq_true y]; rfl
  rcases q1.2.2 with z1 | z1 <;> rcases q2.2.2 with z2 | z2
  ·
   have z1 : s = 1 := z1; have z2 : s' = 1 := z2; omega
  ·
   exfalso; have z1 : s = 1 := z1; have z2 : s' = 2 := z2; subst z1; subst z2; exact this ⟨k1, k2⟩
  ·
   exfalso; have z1 : s = 2 := z1; have z2 : s' = 1 := z2; subst z1; subst z2; exact this ⟨k2, k1⟩
  ·
   have z1 : s = 2 := z1; have z2 : s' = 2 := z2; omega
 have hall : ∀ i : Nat, 1 ≤ i → i ≤ r.vars.toNat → ∃ s, ((i : Int), s) ∈ occ r.l 0 := by
  intro i i1 i2;have := g1 i i1 i2;rw [decide_eq_true_eq, colV_zero hl _ (by omega)] at this
  by_cases q : ((i : Int), (1 : Int)) ∈ occ r.l 0
  ·
   exact ⟨_, q⟩
  ·
   by_cases q2 : ((i : Int), (2 : Int)) ∈ occ r.l 0
   ·
    exact ⟨_, q2⟩
   ·
    exfalso
    apply this;unfold hasO;rw [decide_eq_false q, decide_eq_false q2]; rfl
 have hnd := (shp_nodes _ _ _ _ a1).2
 have him : ∀ i : Nat, 1 ≤ i → i ≤ r.imms.toNat → (i : Int) ∈ occI r.l := by
  intro i i1 i2;rw [all_drop (n := r.imms.toNat) (d := 0) (by rw [colI_len]; simp)] at g2;have := g2 i i1 i2
  rw [decide_eq_true_eq, colI_mem (m := r.imms.toNat) (by simp) (fun x hx => by
   obtain ⟨q, hq, rfl⟩ := List.mem_map.1 hx;have := (hnd q (List.mem_filter.1 hq).1).2.1 (by omega)
   omega) i (by omega)] at this
  rcases this with q | q
  ·
   exfalso; exact q (zeros_get _ _)
  ·
   exact q
 refine ⟨by omega, by omega, h4, h5, h1, by omega, a1, hsr, hall, hone, him, fun c hc => ?_⟩;have := List.all_eq_true.1 g5 c hc;rw [← this];refine condF_congr (by rw [colV_len]; simp) (fun i i1 i2 => ?_);rw [sorts_len] at i2;rw [sorts_get i1 (by omega), colV_zero hlr _ (by omega)]
 have e : ((i - 1 : Nat) : Int) + 1 = i := by omega
 rw [e];obtain ⟨s, hs⟩ := hall i i1 (by omega);have hs' := List.mem_append_left (occ r.r (oSortsF r.l.op).2.1) hs;unfold hasO
 rcases (hl _ hs).2.2 with q | q
 ·
  have q : s = 1 := q;subst q;rw [if_pos hs, decide_eq_true hs', decide_eq_false (fun q2 => by have := hone _ _ _ hs' q2; omega)];simp [code]
 ·
  have q : s = 2 := q;subst q
  rw [if_neg (fun q2 => by have := hone _ _ _ hs' (List.mem_append_left _ q2); omega), decide_eq_true hs', decide_eq_false (fun q2 => by have := hone _ _ _ hs' q2; omega)]
  simp [code]
theorem RuleOk.runL (h : RuleOk r) : ∃ v1, run (occ r.l 0) (List.replicate r.vars.toNat 0) = some v1 ∧ (∀ i : Nat, v1.getD i 0 = 0 ∨ v1.getD i 0 = if ((i : Int) + 1, (1 : Int)) ∈ occ r.l 0 then 1 else 2) := by
 obtain ⟨v1, e1, e2, _⟩ := run_some (fun i => if (i, (1 : Int)) ∈ occ r.l 0 then 1 else 2) (l := occ r.l 0) (vs := List.replicate r.vars.toNat 0) (by rw [List.length_replicate]; exact h.inL) (fun t ht => h.srt t (List.mem_append_left _ ht)) (fun i => .inl (zeros_get _ _))
 exact ⟨v1, e1, e2⟩
theorem RuleOk.runR (h : RuleOk r) {v1 : List Int} (e1 : run (occ r.l 0) (List.replicate r.vars.toNat 0) = some v1) (e2 : ∀ i : Nat, v1.getD i 0 = 0 ∨ v1.getD i 0 = if ((i : Int) + 1, (1 : Int)) ∈ occ r.l 0 then 1 else 2) :
  ∃ v2, run (occ r.r (oSortsF r.l.op).2.1) v1 = some v2 := by
 have hl1 : v1.length = r.vars.toNat := by rw [run_len e1]; simp
 obtain ⟨v2, f1, _⟩ := run_some (fun i => if (i, (1 : Int)) ∈ occ r.l 0 then 1 else 2) (l := occ r.r (oSortsF r.l.op).2.1) (vs := v1) (by rw [hl1]; exact h.inR) (fun t ht => h.srt t (List.mem_append_right _ ht)) e2
 exact ⟨v2, f1⟩
theorem ok_imp (h : RuleOk r) : implF r = true := by
 obtain ⟨v1, e1, e2⟩ := h.runL;have ho := shp_ok h.root h.shl;have hown := (rs_parts ho).1;have hnd := (shp_nodes _ _ _ _ h.shl).2;have hV := h.vars;have hI := h.imms;have hS := h.sizes;have hlr := h.inL.app h.inR;unfold implF implG;simp only [Bool.and_eq_true, decide_eq_true_eq, Bool.or_eq_true];rw [hown, occ_root h.root _ 0, colV_app]
 refine ⟨⟨⟨⟨⟨h.root, ?_⟩, ?_⟩, h.name⟩, h.few⟩, ⟨⟨⟨⟨?_, ?_⟩, ?_⟩, ?_⟩, ?_⟩⟩
 ·
  unfold validF;simp only [Bool.and_eq_true, decide_eq_true_eq];exact ⟨by omega, vPt_fst.2 ⟨v1, by rw [List.length_replicate]; exact h.shl, e1⟩⟩
 ·
  unfold validF;simp only [Bool.and_eq_true, decide_eq_true_eq];refine ⟨by omega, vPt_fst.2 ?_⟩;rw [List.length_replicate]
  by_cases hv : r.r.v = 0
  ·
   obtain ⟨v2, f1, _⟩ := run_some (fun i => if (i, (1 : Int)) ∈ occ r.l 0 then 1 else 2) (l := occ r.r (oSortsF r.l.op).2.1) (vs := List.replicate r.vars.toNat 0) (by rw [List.length_replicate]; exact h.inR) (fun t ht => h.srt t (List.mem_append_right _ ht)) (fun i => .inl (zeros_get _ _))
   rw [occ_root hv _ 0] at f1;exact ⟨v2, shp_sort h.shr, f1⟩
  ·
   refine ⟨(List.replicate r.vars.toNat 0).set (r.r.v - 1).toNat 0, shp_sort h.shr, ?_⟩;rw [occ_var hv];simp only [run, run1];rw [if_pos (zeros_get _ _)]
 ·
  rw [all_drop (n := r.vars.toNat) (d := 0) (by rw [colV_len]; simp)];intro i i1 i2;rw [decide_eq_true_eq, colV_zero h.inL _ (by omega)];obtain ⟨s, hs⟩ := h.all i i1 i2;unfold hasO
  rcases (h.inL _ hs).2.2 with q | q
  ·
   have q : s = 1 := q;subst q;rw [decide_eq_true hs]
   cases decide (((i : Int), (2 : Int)) ∈ occ r.l 0) <;> decide
  ·
   have q : s = 2 := q;subst q;rw [decide_eq_true hs]
   cases decide (((i : Int), (1 : Int)) ∈ occ r.l 0) <;> decide
 ·
  rw [all_drop (n := r.imms.toNat) (d := 0) (by rw [colI_len]; simp)];intro i i1 i2
  rw [decide_eq_true_eq, colI_mem (m := r.imms.toNat) (by simp) (fun x hx => by
   obtain ⟨q, hq, rfl⟩ := List.mem_map.1 hx;have := (hnd q (List.mem_filter.1 hq).1).2.1 (by omega)
   omega) i (by omega)]
  exact .inr (h.im i i1 i2)
 ·
  by_cases hv : r.r.v = 0
  ·
   right
   rw [(rs_parts (shp_ok hv h.shr)).1];exact (shp_root h.shr (by have := h.own; omega) hv).symm
  ·
   exact .inl hv
 ·
  rw [all_drop (n := r.vars.toNat) (d := 0) (by rw [colV_len]; simp)];intro i i1 i2;rw [decide_eq_true_eq, colV_zero hlr _ (by omega)];unfold hasO
  by_cases q : ((i : Int), (1 : Int)) ∈ occ r.l 0 ++ occ r.r (oSortsF r.l.op).2.1
  ·
   have : ¬((i : Int), (2 : Int)) ∈ occ r.l 0 ++ occ r.r (oSortsF r.l.op).2.1 := fun q2 => by have := h.one _ _ _ q q2; omega
   rw [decide_eq_true q, decide_eq_false this]; decide
  ·
   rw [decide_eq_false q]
   cases decide (((i : Int), (2 : Int)) ∈ occ r.l 0 ++ occ r.r (oSortsF r.l.op).2.1) <;> decide
 ·
  rw [List.all_eq_true];intro c hc;rw [← h.cnd c hc];refine condF_congr (by rw [colV_len]; simp) (fun i i1 i2 => ?_);rw [colV_len, List.length_replicate] at i2;rw [sorts_get i1 (by omega), colV_zero hlr _ (by omega)]
  have e : ((i - 1 : Nat) : Int) + 1 = i := by omega
  rw [e];obtain ⟨s, hs⟩ := h.all i i1 (by omega);have hs' := List.mem_append_left (occ r.r (oSortsF r.l.op).2.1) hs;unfold hasO
  rcases (h.inL _ hs).2.2 with q | q
  ·
   have q : s = 1 := q;subst q;rw [if_pos hs, decide_eq_true hs', decide_eq_false (fun q2 => by have := h.one _ _ _ hs' q2; omega)];simp [code]
  ·
   have q : s = 2 := q;subst q
   rw [if_neg (fun q2 => by have := h.one _ _ _ hs' (List.mem_append_left _ q2); omega), decide_eq_true hs', decide_eq_false (fun q2 => by have := h.one _ _ _ hs' q2; omega)]
   simp [code]
theorem mark_len (l : List Pt) (bs : List Bool) : (markV l bs).length = bs.length ∧ (markI l bs).length = bs.length := ⟨(mark_get Pt.v l bs 0).1, (mark_get Pt.iv l bs 0).1⟩
theorem false_get (n i : Nat) : ¬((List.replicate n false).getD i false = true) := by
 simp only [List.getD, List.getElem?_replicate]
 split <;> simp
theorem ref_ok (h : refF r = true) : RuleOk r := by
 unfold refF at h;simp only [Bool.and_eq_true, decide_eq_true_eq] at h;obtain ⟨⟨⟨⟨⟨⟨⟨⟨h1, h2⟩, h3⟩, h4⟩, h5⟩, h6⟩, h7⟩, h8⟩, h9⟩ := h;obtain ⟨v1, a1, a2⟩ := vPt_fst.1 h5;have e5 := (vPt_iff _ _ _ _ _).2 ⟨a1, a2⟩;rw [List.length_replicate] at a1;have ho := shp_ok h4.1 a1;have hps := (allowed_parts ho).2.1;rw [hps, e5] at h6 h9
 have hl1 : v1.length = r.vars.toNat := by rw [run_len a2]; simp
 obtain ⟨v2, b1, b2⟩ := vPt_fst.1 h6;have e6 := (vPt_iff _ _ _ _ _).2 ⟨b1, b2⟩;rw [e6] at h9;rw [hl1] at b1;have hown12 := osort_own ho;have hl := shp_inR _ _ _ _ a1 (.inr (.inr h4.1));have hr := shp_inR _ _ _ _ b1 (by omega);have hlr := hl.app hr;obtain ⟨s1, s2⟩ := run_sound (by rw [List.length_replicate]; exact hl) a2;obtain ⟨t1, t2⟩ := run_sound (by rw [hl1]; exact hr) b2
 have hv2 : ∀ t ∈ occ r.l 0 ++ occ r.r (oSortsF r.l.op).2.1, v2.getD (t.1 - 1).toNat 0 = t.2 := by
  intro t ht
  rcases List.mem_append.1 ht with ht | ht
  ·
   have e := s2 t ht;have := (hl t ht).2.2;rw [t1 _ (by rw [e]; omega), e]
  ·
   exact t2 t ht
 have hone : ∀ i s s', (i, s) ∈ occ r.l 0 ++ occ r.r (oSortsF r.l.op).2.1 → (i, s') ∈ occ r.l 0 ++ occ r.r (oSortsF r.l.op).2.1 → s = s' := by
  intro i s s' k1 k2;have q1 := hv2 _ k1;have q2 := hv2 _ k2;exact q1.symm.trans q2
 obtain ⟨n1, n2⟩ := shp_nodes _ _ _ _ a1
 have hall : ∀ i : Nat, 1 ≤ i → i ≤ r.vars.toNat → ∃ s, ((i : Int), s) ∈ occ r.l 0 := by
  intro i i1 i2;rw [all_drop (n := r.vars.toNat) (d := false) (by rw [(mark_len _ _).1]; simp)] at h7;have := (((mark_get Pt.v (nodes r.l) _ i).2 i1 (by simp; omega)).1 (h7 i i1 i2))
  rcases this with q | q
  ·
   exact absurd q (false_get _ _)
  ·
   exact (n1 i (by omega)).1 q
 have him : ∀ i : Nat, 1 ≤ i → i ≤ r.imms.toNat → (i : Int) ∈ occI r.l := by
  intro i i1 i2;rw [all_drop (n := r.imms.toNat) (d := false) (by rw [(mark_len _ _).2]; simp)] at h8;have := (((mark_get Pt.iv (nodes r.l) _ i).2 i1 (by simp; omega)).1 (h8 i i1 i2))
  rcases this with q | ⟨q, hq, e⟩
  ·
   exact absurd q (false_get _ _)
  ·
   refine List.mem_map.2 ⟨q, List.mem_filter.2 ⟨hq, ?_⟩, e⟩;rw [decide_eq_true_eq]
   exact Decidable.byContradiction fun hv => by have := (n2 q hq).1 hv; omega
 refine ⟨by omega, by omega, h2, h3, h4.1, h4.2, a1, b1, hall, hone, him, fun c hc => ?_⟩;have := List.all_eq_true.1 h9 c hc;rw [← this];refine condF_congr (by rw [sorts_len]; simp [run_len b2, hl1]) (fun i i1 i2 => ?_);rw [sorts_len] at i2;rw [sorts_get i1 (by omega)]
 have e : ((i - 1 : Nat) : Int) + 1 = i := by omega
 rw [e];obtain ⟨s, hs⟩ := hall i i1 (by omega);have hg := hv2 _ (List.mem_append_left _ hs)
 have e3 : (0 :: v2).getD i 0 = s := by
  obtain ⟨k, rfl⟩ : ∃ k, i = k + 1 := ⟨i - 1, by omega⟩;rw [List.getD_cons_succ]
  have : (((k + 1 : Nat) : Int) - 1).toNat = k := by omega
  rw [this] at hg;exact hg
 rw [e3]
 rcases (hl _ hs).2.2 with q | q
 ·
  have q : s = 1 := q;subst q;rw [if_pos hs]
 ·
  have q : s = 2 := q;subst q;rw [if_neg (fun q2 => by have := hone _ _ _ (List.mem_append_left _ hs) (List.mem_append_left _ q2); omega)]
theorem ok_ref (h : RuleOk r) : refF r = true := by
 obtain ⟨v1, e1, e2⟩ := h.runL;obtain ⟨v2, f1⟩ := h.runR e1 e2
 have hl1 : v1.length = r.vars.toNat := by rw [run_len e1]; simp
 have ho := shp_ok h.root h.shl;have hps := (allowed_parts ho).2.1;obtain ⟨n1, n2⟩ := shp_nodes _ _ _ _ h.shl;have hV := h.vars;have hI := h.imms;have hS := h.sizes;have q1 := (vPt_iff r.l 0 r.imms (List.replicate r.vars.toNat 0) v1).2 ⟨by rw [List.length_replicate]; exact h.shl, e1⟩;have q2 := (vPt_iff r.r (oSortsF r.l.op).2.1 r.imms v1 v2).2 ⟨by rw [hl1]; exact h.shr, f1⟩;unfold refF
 rw [q1, hps];dsimp only;rw [q2];simp only [Bool.and_eq_true, decide_eq_true_eq];refine ⟨⟨⟨⟨⟨⟨⟨⟨by omega, h.name⟩, h.few⟩, h.root, h.sizes⟩, trivial⟩, trivial⟩, ?_⟩, ?_⟩, ?_⟩
 ·
  rw [all_drop (n := r.vars.toNat) (d := false) (by rw [(mark_len _ _).1]; simp)];intro i i1 i2;exact ((mark_get Pt.v (nodes r.l) _ i).2 i1 (by simp; omega)).2 (.inr ((n1 i (by omega)).2 (h.all i i1 i2)))
 ·
  rw [all_drop (n := r.imms.toNat) (d := false) (by rw [(mark_len _ _).2]; simp)];intro i i1 i2;obtain ⟨q, hq, e⟩ := List.mem_map.1 (h.im i i1 i2);exact ((mark_get Pt.iv (nodes r.l) _ i).2 i1 (by simp; omega)).2 (.inr ⟨q, (List.mem_filter.1 hq).1, e⟩)
 ·
  rw [List.all_eq_true];intro c hc;rw [← h.cnd c hc];refine condF_congr (by rw [sorts_len]; simp [run_len f1, hl1]) (fun i i1 i2 => ?_)
  have hlen : (0 :: v2).length = r.vars.toNat + 1 := by simp [run_len f1, hl1]
  rw [sorts_get i1 (by omega)]
  have e : ((i - 1 : Nat) : Int) + 1 = i := by omega
  rw [e];obtain ⟨s, hs⟩ := h.all i i1 (by omega);obtain ⟨s1, s2⟩ := run_sound (by rw [List.length_replicate]; exact h.inL) e1;obtain ⟨t1, t2⟩ := run_sound (by rw [hl1]; exact h.inR) f1
  have hg : v2.getD ((i : Int) - 1).toNat 0 = s := by
   have e := s2 _ hs;have := (h.inL _ hs).2.2;rw [t1 _ (by rw [e]; omega), e]
  have e3 : (0 :: v2).getD i 0 = s := by
   obtain ⟨k, rfl⟩ : ∃ k, i = k + 1 := ⟨i - 1, by omega⟩;rw [List.getD_cons_succ]
   have : (((k + 1 : Nat) : Int) - 1).toNat = k := by omega
   rw [this] at hg;exact hg
  rw [e3]
  rcases (h.inL _ hs).2.2 with q | q
  ·
   have q : s = 1 := q;subst q;rw [if_pos hs]
  ·
   have q : s = 2 := q;subst q;rw [if_neg (fun q2 => by have := h.one _ _ _ (List.mem_append_left _ hs) (List.mem_append_left _ q2); omega)]
theorem imp_ref (r : Rl) : implF r = refF r := by
 rw [Bool.eq_iff_iff];exact ⟨fun h => ok_ref (imp_ok h), fun h => ok_imp (ref_ok h)⟩
end
end Go.Proofs.YtblkgjdhaibhgaaGreat
namespace Go.Proofs.YtblkgjdhaibhgaaGreat
open Go.RowKit
theorem take_snoc' {α : Type} {L : List α} {k : Nat} (h : k < L.length) : L.take (k + 1) = L.take k ++ [L[k]] := by
 rw [List.take_add_one, List.getElem?_eq_getElem h]; rfl
def CondsV (w : World) (F : Nat → Prop) (A : Option Addr) (cs : List Cd) : Prop :=
 cs = [] ∨ ∃ b o, A = some ⟨b, o, none⟩ ∧ F b ∧ ∀ i (h : i < cs.length), w.cell? ⟨b, o + i * 4, none⟩ = some (.int .i64 cs[i].kind) ∧ w.cell? ⟨b, o + i * 4 + 1, none⟩ = some (.int .i64 cs[i].a) ∧ w.cell? ⟨b, o + i * 4 + 2, none⟩ = some (.int .i64 cs[i].b) ∧ w.cell? ⟨b, o + i * 4 + 3, none⟩ = some (.int .i64 cs[i].n)
section
variable {w w' : World} {F G S : Nat → Prop} {A : Option Addr} {cs : List Cd}
theorem CondsV.nil : CondsV w F A [] := .inl rfl
theorem CondsV.at_ (h : CondsV w F A cs) {i : Nat} (hi : i < cs.length) : ∃ b o, A = some ⟨b, o, none⟩ ∧ F b ∧ b < w.heap.size ∧ w.cell? ⟨b, o + i * 4, none⟩ = some (.int .i64 cs[i].kind) ∧ w.cell? ⟨b, o + i * 4 + 1, none⟩ = some (.int .i64 cs[i].a) ∧ w.cell? ⟨b, o + i * 4 + 2, none⟩ = some (.int .i64 cs[i].b) ∧ w.cell? ⟨b, o + i * 4 + 3, none⟩ = some (.int .i64 cs[i].n) := by
 rcases h with h | ⟨b, o, e, hF, h⟩
 ·
  subst h; simp at hi
 ·
  exact ⟨b, o, e, hF, World.block_lt_of_cell? _ _ (h i hi).1, h i hi⟩
theorem CondsV.upd (h : CondsV w F A cs) (u : Upd S w w') (d : ∀ k, k < w.heap.size → F k → ¬ S k) : CondsV w' F A cs := by
 rcases h with h | ⟨b, o, e, hF, h⟩
 ·
  exact .inl h
 ·
  refine .inr ⟨b, o, e, hF, fun i hi => ?_⟩;have hb : ¬ S b := d b (World.block_lt_of_cell? _ _ (h i hi).1) hF;obtain ⟨h0, h1, h2, h3⟩ := h i hi;exact ⟨cell_upd h0 u hb, cell_upd h1 u hb, cell_upd h2 u hb, cell_upd h3 u hb⟩
theorem CondsV.mono (h : CondsV w F A cs) (hFG : ∀ k, k < w.heap.size → F k → G k) : CondsV w G A cs := by
 rcases h with h | ⟨b, o, e, hF, h⟩
 ·
  exact .inl h
 ·
  by_cases hn : cs = []
  ·
   exact .inl hn
  ·
   exact .inr ⟨b, o, e, hFG b (World.block_lt_of_cell? _ _ (h 0 (List.length_pos_iff.2 hn)).1) hF, h⟩
end
structure RlA where
 la : Option Addr
 lc : Nat
 ra : Option Addr
 rc : Nat
 ca : Option Addr
 cc : Nat
def rlCells (r : Rl) (a : RlA) : Array Value := #[.string r.name, .int .i64 r.l.v, .int .i64 r.l.op, .int .i64 r.l.imm, .int .i64 r.l.iv, .slice a.la r.l.kids.length a.lc, .int .i64 r.r.v, .int .i64 r.r.op, .int .i64 r.r.imm, .int .i64 r.r.iv, .slice a.ra r.r.kids.length a.rc, .slice a.ca r.conds.length a.cc, .int .i64 r.vars, .int .i64 r.imms]
def rlv (r : Rl) (a : RlA) : Value := .agg (rlCells r a)
structure RlK (w : World) (F : Nat → Prop) (x : Rl) (a : RlA) : Prop where
 l : PtK w F x.l a.la a.lc
 r : PtK w F x.r a.ra a.rc
 c : CondsV w F a.ca x.conds
 le : x.conds.length ≤ a.cc
theorem RlK.upd {w w' : World} {F S : Nat → Prop} {r : Rl} {a : RlA} (h : RlK w F r a) (u : Upd S w w') (d : ∀ k, k < w.heap.size → F k → ¬ S k) : RlK w' F r a :=
 ⟨PtK.upd u d _ _ _ h.l, PtK.upd u d _ _ _ h.r, h.c.upd u d, h.le⟩
theorem RlK.mono {w : World} {F G : Nat → Prop} {r : Rl} {a : RlA} (h : RlK w F r a) (g : ∀ k, k < w.heap.size → F k → G k) : RlK w G r a :=
 ⟨PtK.mono g _ _ _ h.l, PtK.mono g _ _ _ h.r, h.c.mono g, h.le⟩
theorem results_cell_row_tmp {P : Program} {fn : Func} {p u : Tmp} {ty : TypeId} (h : fn.results = #[.cell p ty, .tmp u]) (tmps : Array Value) (w : World) (g : Nat) (t : TypeId) (cs : Array Value) (fr : Nat × Nat) (d : TypeDesc)
  (hp : tmps.getD p undef = .pointer (some ⟨g, 0, none⟩)) (hg : w.heap[g]? = some (.cells cs t fr))
  (hu : P.underlying ty = some d) (hd : (match d with | .struct _ | .array _ _ => true | _ => false) = true) (hi : (P.info? ty).map (·.size) = some cs.size) :
  (results fn tmps).run P w = .ok (.tuple #[.agg cs, tmps.getD u undef]) w := by
 rw [results_cell_tmp h, hp];simp [asAddr, run_loadVar_row w g t ty cs fr d hg hu hd hi, Result.andThen]
set_option maxRecDepth 100000 in
set_option maxHeartbeats 4000000 in
theorem rlSorts_c (op : Int) (w : World) : Calls Tryz.prog 46 #[.int .i64 op] w fun e w' => e = .returned (.tuple #[.agg #[.int .i64 ((rsF op).1.getD 0 0), .int .i64 ((rsF op).1.getD 1 0), .int .i64 ((rsF op).1.getD 2 0)], .int .i64 (rsF op).2]) ∧ Upd Non w w' := by
 have uA : ∀ o, Upd Non w (w.alloc o) := fun o => Upd.refl.alloc o
 by_cases h1 : op = 23
 ·
  subst h1;go_enter Tryz.func46, Tryz.ntmps46
  go_wp2_with fail
  refine bodyPost_ret (results_cell_row_tmp rfl _ _ w.heap.size 93 _ (0, 0) _ rfl (Blk.new _ _ _) Tryz.underlying93 rfl (by kernel_rfl)) rfl ?_;exact ⟨rfl, uA _⟩
 by_cases h2 : op = 24
 ·
  subst h2;go_enter Tryz.func46, Tryz.ntmps46
  go_wp2_with fail
  refine bodyPost_ret (results_cell_row_tmp rfl _ _ w.heap.size 93 _ (0, 0) _ rfl (Blk.new _ _ _) Tryz.underlying93 rfl (by kernel_rfl)) rfl ?_;exact ⟨rfl, uA _⟩
 by_cases h3 : op = 27
 ·
  subst h3;go_enter Tryz.func46, Tryz.ntmps46
  go_wp2_with fail
  refine bodyPost_ret (results_cell_row_tmp rfl _ _ w.heap.size 93 _ (0, 0) _ rfl (Blk.new _ _ _) Tryz.underlying93 rfl (by kernel_rfl)) rfl ?_;exact ⟨rfl, uA _⟩
 by_cases h4 : op = 29
 ·
  subst h4;go_enter Tryz.func46, Tryz.ntmps46
  go_wp2_with fail
  refine bodyPost_ret (results_cell_row_tmp rfl _ _ w.heap.size 93 _ (0, 0) _ rfl (Blk.new _ _ _) Tryz.underlying93 rfl (by kernel_rfl)) rfl ?_;exact ⟨rfl, uA _⟩
 by_cases h5 : op = 28
 ·
  subst h5;go_enter Tryz.func46, Tryz.ntmps46
  go_wp2_with fail
  refine bodyPost_ret (results_cell_row_tmp rfl _ _ w.heap.size 93 _ (0, 0) _ rfl (Blk.new _ _ _) Tryz.underlying93 rfl (by kernel_rfl)) rfl ?_;exact ⟨rfl, uA _⟩
 ·
  have t1 : (op == 23) = false := by simpa using h1
  have t2 : (op == 24) = false := by simpa using h2
  have t3 : (op == 27) = false := by simpa using h3
  have t4 : (op == 29) = false := by simpa using h4
  have t5 : (op == 28) = false := by simpa using h5
  have e : rsF op = ([1, 1, 1], 1) := by unfold rsF; rw [if_neg h1, if_neg h2, if_neg (by omega), if_neg h5]
  rw [e];clear h1 h2 h3 h4 h5 e;go_enter Tryz.func46, Tryz.ntmps46
  go_wp2_with fail
  refine bodyPost_ret (results_cell_row_tmp rfl _ _ w.heap.size 93 _ (0, 0) _ rfl (Blk.new _ _ _) Tryz.underlying93 rfl (by kernel_rfl)) rfl ?_;exact ⟨rfl, uA _⟩
def occIL (ks : List Pt) : List Int := ((nodesL ks).filter fun q => decide (q.v = 0)).map Pt.iv
theorem occI_op {p : Pt} (h : p.v = 0) : occI p = p.iv :: occIL p.kids := by
 unfold occI occIL;rw [nodes_eq];simp [h]
theorem occI_var {p : Pt} {s m : Int} {n : Nat} (hs : shp p s m n = true) (h : p.v ≠ 0) : occI p = [] := by
 rw [shp_var h, decide_eq_true_eq] at hs;have hk : p.kids = [] := List.eq_nil_of_length_eq_zero (by omega);unfold occI;rw [nodes_eq, hk];simp [nodesL, h]
theorem nodesL_snoc : ∀ (ks : List Pt) (k : Pt), nodesL (ks ++ [k]) = nodesL ks ++ nodes k
 | [], k => by simp [nodesL]
 | x :: ks, k => by simp [nodesL, nodesL_snoc ks k]
theorem occIL_snoc (ks : List Pt) (k : Pt) : occIL (ks ++ [k]) = occIL ks ++ occI k := by
 unfold occIL occI;rw [nodesL_snoc, List.filter_append, List.map_append]
theorem occL_snoc : ∀ (ks : List Pt) (k : Pt) (ss : List Int), occL (ks ++ [k]) ss = occL ks ss ++ occ k (ss.getD ks.length 0)
 | [], k, ss => by
  cases ss <;> simp [occL]
 | x :: ks, k, ss => by
  cases ss with
  | nil => simp [occL, occL_snoc ks k]
  | cons y ss => simp [occL, occL_snoc ks k]
theorem shpL_at {m : Int} {n : Nat} : ∀ {ks : List Pt} {ss : List Int} {i : Nat} (hi : i < ks.length), shpL ks ss m n = true → shp ks[i] (ss.getD i 0) m n = true
 | k :: ks, ss, 0, _, h => by
  rw [shpL, Bool.and_eq_true] at h;have := h.1
  cases ss <;> simpa using this
 | k :: ks, ss, i + 1, hi, h => by
  rw [shpL, Bool.and_eq_true] at h;have := shpL_at (i := i) (by simpa using hi) h.2
  cases ss <;> simpa using this
theorem colV_snoc (a b : List (Int × Int)) (vs : List Int) : colV (a ++ b) vs = colV b (colV a vs) := by simp [colV]
theorem colI_snoc (a b : List Int) (ms : List Int) : colI (a ++ b) ms = colI b (colI a ms) := by simp [colI]
abbrev Bs := List UInt8
def isPn (c : UInt8) : Bool := decide (c.toNat = 40 ∨ c.toNat = 41 ∨ c.toNat = 59 ∨ c.toNat = 58 ∨ c.toNat = 44)
def isSp (c : UInt8) : Bool := decide (c.toNat = 32 ∨ c.toNat = 9 ∨ c.toNat = 10 ∨ c.toNat = 13)
def isLw (c : UInt8) : Bool := decide (97 ≤ c.toNat ∧ c.toNat ≤ 122)
def isCm : Bs → Bool
 | a :: b :: _ => decide (a.toNat = 47 ∧ b.toNat = 47)
 | _ => false
def wordCh (c : UInt8) : Bool := decide (33 ≤ c.toNat ∧ c.toNat ≤ 126) && !isPn c
def wlen : Bs → Nat
 | [] => 0
 | c :: r => if wordCh c && !isCm (c :: r) then wlen r + 1 else 0
def clen : Bs → Nat
 | [] => 0
 | c :: r => if c.toNat = 10 then 0 else clen r + 1
structure Tok where
 s : Bs
 pos : Nat
 bad : Bool
def tokL : Nat → Bs → Nat → List Tok
 | 0, _, o => [⟨[], o, true⟩]
 | _ + 1, [], o => [⟨[], o, true⟩]
 | f + 1, c :: r, o =>
  if isSp c then tokL f r (o + 1)
  else if isCm (c :: r) then tokL f ((c :: r).drop (clen (c :: r))) (o + clen (c :: r))
  else if isPn c || decide (c.toNat < 33) || decide (126 < c.toNat) then ⟨[c], o, !isPn c⟩ :: tokL f r (o + 1)
  else ⟨(c :: r).take (wlen (c :: r)), o, false⟩ :: tokL f ((c :: r).drop (wlen (c :: r))) (o + wlen (c :: r))
def toksF (s : Bs) : List Tok := tokL (s.length + 1) s 0
def goodT : List Tok → List (Bs × Nat)
 | [] => []
 | t :: l => if t.bad then [] else (t.s, t.pos) :: goodT l
def finT : List Tok → Nat
 | [] => 0
 | t :: l => if t.bad then t.pos else finT l
def findB : Bs → UInt8 → Nat → Option Nat
 | [], _, _ => none
 | x :: l, c, i => if x = c then some i else findB l c (i + 1)
def lookF (l : Bs) (c : UInt8) (left : Bool) : Nat × Bs :=
 match findB l c 0 with
 | some i => (i + 1, l)
 | none => if left then (l.length + 1, l ++ [c]) else (0, l)
def varF (s : Bs) (c : Nat) (l : Bs) (left : Bool) : Nat × Bs :=
 match s with
 | [a, b] => if a.toNat = c ∧ isLw b = true then lookF l b left else (0, l)
 | _ => (0, l)
def isDg (c : UInt8) : Bool := decide (48 ≤ c.toNat ∧ c.toNat ≤ 57)
def digF (l : Bs) (n : Nat) : Nat := l.foldl (fun n c => 10 * n + (c.toNat - 48)) n
def decF (s : Bs) : Option Int :=
 let neg := decide (s.head? = some 45)
 let t := if neg then s.tail else s
 if t.length < 1 ∨ t.length > 19 ∨ (t.head? = some 48 ∧ (t.length > 1 ∨ neg = true)) then none
 else if t.all isDg then
  if digF t 0 > (if neg then 9223372036854775808 else 9223372036854775807) then none else some (if neg then -(digF t 0 : Int) else digF t 0)
 else none
def nameL : List Bs :=
 [[97, 100, 100],
 [115, 117, 98],
 [109, 117, 108],
 [100, 105, 118],
 [114, 101, 109],
 [97, 110, 100],
 [111, 114],
 [120, 111, 114],
 [115, 104, 108],
 [115, 104, 114],
 [115, 97, 114],
 [101, 113],
 [110, 101],
 [108, 116],
 [108, 101],
 [108, 116, 117],
 [110, 101, 103],
 [110, 111, 116],
 [115, 101, 108],
 [108, 111, 97, 100],
 [114, 101, 116],
 [102, 105, 110],
 [115, 116, 97, 114, 116],
 [110, 101, 101, 100],
 [115, 116, 111, 114, 101],
 [111, 117, 116],
 [99, 97, 108, 108],
 [108, 111, 111, 112]]
def findL {α : Type} [DecidableEq α] : List α → α → Nat → Option Nat
 | [], _, _ => none
 | x :: l, s, i => if x = s then some i else findL l s (i + 1)
def opF (s : Bs) : Option Nat := (findL nameL s 0).map (4 + ·)
def arF (op : Int) : Option Nat :=
 if op = 24 ∨ op = 20 ∨ op = 21 then some 1 else if op = 22 ∨ op = 28 then some 3 else if (4 ≤ op ∧ op ≤ 23) ∨ op = 27 ∨ op = 29 then some 2 else none
def immOp (op : Int) : Bool := decide (op = 23 ∨ op = 27 ∨ op = 28)
abbrev Er := Int × Int
structure PS where
 i : Nat
 vs : Bs
 ms : Bs
section
variable (T : List (Bs × Nat)) (fin : Nat)
def offF (i : Nat) : Nat := match T[i]? with | some t => t.2 | none => fin
def tkF (i : Nat) : Option Bs := (T[i]?).map (·.1)
def serr (i : Nat) : Er := (2, (offF T fin i : Int))
def expF (s : Bs) (x : PS) : Except Er PS := if tkF T x.i = some s then .ok { x with i := x.i + 1 } else .error (serr T fin x.i)
def wrdF {α : Type} (f : Bs → PS → Option (α × PS)) (x : PS) : Except Er (α × PS) :=
 match tkF T x.i with
 | some s => if isPn (s.headD 0) then .error (serr T fin x.i) else match f s x with
  | some (a, y) => .ok (a, { y with i := x.i + 1 })
  | none => .error (serr T fin x.i)
 | none => .error (serr T fin x.i)
def atomF (left : Bool) (s : Bs) (x : PS) : Option (Pt × PS) :=
 match decF s with
 | some n => some (.mk 0 1 n 0 [], x)
 | none =>
  if 0 < (varF s 63 x.vs left).1 then some (.mk (varF s 63 x.vs left).1 0 0 0 [], { x with vs := (varF s 63 x.vs left).2 })
  else if 0 < (varF s 36 x.ms left).1 then some (.mk 0 1 0 (varF s 36 x.ms left).1 [], { x with ms := (varF s 36 x.ms left).2 })
  else none
def operF (left : Bool) (s : Bs) (x : PS) : Option (Pt × PS) :=
 let a := s.takeWhile (fun c => decide (c.toNat ≠ 46))
 let r := s.drop a.length
 match opF a with
 | none => none
 | some op =>
  if (arF op).isNone ∨ immOp op ≠ decide (a.length < s.length) then none
  else if immOp op = false then some (.mk 0 op 0 0 [], x)
  else match decF r.tail with
   | some n => some (.mk 0 op n 0 [], x)
   | none => match r.tail with
    | [c] => if isLw c = true ∧ 0 < (lookF x.ms c left).1 then some (.mk 0 op 0 (lookF x.ms c left).1 [], { x with ms := (lookF x.ms c left).2 }) else none
    | _ => none
def kidsF (g : PS → Except Er (Pt × PS)) : Nat → PS → Except Er (List Pt × PS)
 | 0, x => .ok ([], x)
 | k + 1, x => match g x with
  | .error e => .error e
  | .ok (p, y) => match kidsF g k y with
   | .error e => .error e
   | .ok (l, z) => .ok (p :: l, z)
def termF (left : Bool) : Nat → PS → Except Er (Pt × PS)
 | 0, x => .error (serr T fin x.i)
 | f + 1, x =>
  if tkF T x.i = some [40] then
   match wrdF T fin (operF left) { x with i := x.i + 1 } with
   | .error e => .error e
   | .ok (p, y) => match kidsF (termF left f) ((arF p.op).getD 0) y with
    | .error e => .error e
    | .ok (l, z) => match expF T fin [41] z with
     | .error e => .error e
     | .ok u => .ok (.mk 0 p.op p.imm p.iv l, u)
  else wrdF T fin (atomF left) x
def pvarF : PS → Except Er (Nat × PS) := wrdF T fin fun s x => if 0 < (varF s 63 x.vs false).1 then some ((varF s 63 x.vs false).1, x) else none
def ivarF : PS → Except Er (Nat × PS) := wrdF T fin fun s x => match s with
 | [c] => if isLw c = true ∧ 0 < (lookF x.ms c false).1 then some ((lookF x.ms c false).1, x) else none
 | _ => none
def numbF : PS → Except Er (Int × PS) := wrdF T fin fun s x => (decF s).map fun n => (n, x)
def condL : List Bs := [[110, 111, 110, 122, 101, 114, 111], [108, 101, 97, 115, 116], [109, 111, 115, 116], [97, 112, 97, 114, 116], [105, 110, 115, 105, 100, 101], [117, 110, 108, 105, 107, 101]]
def kindF : PS → Except Er (Nat × PS) := wrdF T fin fun s x => (findL condL s 0).map fun i => (i + 1, x)
def pcondF (x : PS) : Except Er (Cd × PS) :=
 match kindF T fin x with
 | .error e => .error e
 | .ok (k, y) => match (if k = 6 then ivarF T fin y else pvarF T fin y) with
  | .error e => .error e
  | .ok (a, z) =>
   if k = 1 then .ok (⟨1, a, 0, 0⟩, z)
   else if k = 2 ∨ k = 3 then match numbF T fin z with
    | .error e => .error e
    | .ok (n, u) => .ok (⟨k, a, 0, n⟩, u)
   else if k = 4 then match pvarF T fin z with
    | .error e => .error e
    | .ok (b, u) => .ok (⟨4, a, b, 0⟩, u)
   else match ivarF T fin z with
    | .error e => .error e
    | .ok (b, u) => .ok (⟨k, a, b, 0⟩, u)
def condsF : Nat → PS → Except Er (List Cd × PS)
 | 0, x => .ok ([], x)
 | f + 1, x =>
  if tkF T x.i = some [44] then
   match pcondF T fin { x with i := x.i + 1 } with
   | .error e => .error e
   | .ok (c, y) => match condsF f y with
    | .error e => .error e
    | .ok (l, z) => .ok (c :: l, z)
  else .ok ([], x)
def ifF (f : Nat) (x : PS) : Except Er (List Cd × PS) :=
 if tkF T x.i = some [105, 102] then
  match pcondF T fin { x with i := x.i + 1 } with
  | .error e => .error e
  | .ok (c, y) => match condsF T fin f y with
   | .error e => .error e
   | .ok (l, z) => .ok (c :: l, z)
 else .ok ([], x)
def anyF : PS → Except Er (Bs × PS) := wrdF T fin fun s x => some (s, x)
def ruleF (x : PS) : Except Er (Rl × PS) :=
 match anyF T fin { x with vs := [], ms := [] } with
 | .error e => .error e
 | .ok (s, x1) => match expF T fin [58] x1 with
  | .error e => .error e
  | .ok x2 => match termF T fin true (T.length + 1) x2 with
   | .error e => .error e
   | .ok (l, x3) => match expF T fin [61, 62] x3 with
    | .error e => .error e
    | .ok x4 => match termF T fin false (T.length + 1) x4 with
     | .error e => .error e
     | .ok (r, x5) => match ifF T fin (T.length + 1) x5 with
      | .error e => .error e
      | .ok (cs, x6) => match expF T fin [59] x6 with
       | .error e => .error e
       | .ok x7 => .ok (⟨⟨s.toArray⟩, l, r, cs, x7.vs.length, x7.ms.length⟩, x7)
def itemF (ax : Bs → Option Rl) (x : PS) : Except Er ((Option Rl × Nat) × PS) :=
 if tkF T x.i = some [97, 120, 105, 111, 109] then
  match anyF T fin { x with i := x.i + 1 } with
  | .error e => .error e
  | .ok (s, y) => match expF T fin [59] y with
   | .error e => .error e
   | .ok z => .ok ((ax s, offF T fin (x.i + 1)), z)
 else match expF T fin [114, 117, 108, 101] x with
  | .error e => .error e
  | .ok y => match ruleF T fin y with
   | .error e => .error e
   | .ok (r, z) => .ok ((some r, offF T fin y.i), z)
def loopF (ax : Bs → Option Rl) (n : Nat) : Nat → PS → List Rl → Except Er (List Rl)
 | 0, x, _ => .error (serr T fin x.i)
 | f + 1, x, out =>
  if offF T fin x.i < n then
   match itemF T fin ax x with
   | .error e => .error e
   | .ok ((o, pos), y) => match o with
    | none => .error (3, pos)
    | some r =>
     if implF r = false then .error (1, pos)
     else if out.any (fun q => decide (q.name = r.name)) then .error (4, pos)
     else if out.length = 160 then .error (6, pos)
     else loopF ax n f y (out ++ [r])
  else .ok out
end
def parseG (ax : Bs → Option Rl) (s : Bs) : Except Er (List Rl) :=
 if 20000 < s.length then .error (6, 20000)
 else loopF (goodT (toksF s)) (finT (toksF s)) ax s.length (s.length + 1) ⟨0, [], []⟩ []
def axL : List (Bs × Bs) :=
 [([100, 105, 118, 45, 111, 110, 101], [40, 100, 105, 118, 32, 63, 97, 32, 49, 41, 32, 61, 62, 32, 63, 97]),
 ([100, 105, 118, 45, 115, 101, 108, 102], [40, 100, 105, 118, 32, 63, 97, 32, 63, 97, 41, 32, 61, 62, 32, 49, 32, 105, 102, 32, 110, 111, 110, 122, 101, 114, 111, 32, 63, 97]),
 ([100, 105, 118, 45, 109, 105, 110, 117, 115], [40, 100, 105, 118, 32, 63, 97, 32, 45, 49, 41, 32, 61, 62, 32, 40, 110, 101, 103, 32, 63, 97, 41]),
 ([100, 105, 118, 45, 122, 101, 114, 111], [40, 100, 105, 118, 32, 48, 32, 63, 97, 41, 32, 61, 62, 32, 48]),
 ([114, 101, 109, 45, 111, 110, 101], [40, 114, 101, 109, 32, 63, 97, 32, 49, 41, 32, 61, 62, 32, 48]),
 ([114, 101, 109, 45, 115, 101, 108, 102], [40, 114, 101, 109, 32, 63, 97, 32, 63, 97, 41, 32, 61, 62, 32, 48]),
 ([114, 101, 109, 45, 100, 105, 118], [40, 114, 101, 109, 32, 63, 97, 32, 63, 98, 41, 32, 61, 62, 32, 40, 115, 117, 98, 32, 63, 97, 32, 40, 109, 117, 108, 32, 40, 100, 105, 118, 32, 63, 97, 32, 63, 98, 41, 32, 63, 98, 41, 41, 32, 105, 102, 32, 110, 111, 110, 122, 101, 114, 111, 32, 63, 98]),
 ([110, 101, 101, 100, 45, 116, 114, 117, 101], [40, 110, 101, 101, 100, 46, 107, 32, 63, 97, 32, 63, 98, 41, 32, 61, 62, 32, 63, 97, 32, 105, 102, 32, 110, 111, 110, 122, 101, 114, 111, 32, 63, 98]),
 ([110, 101, 101, 100, 45, 116, 119, 105, 99, 101], [40, 110, 101, 101, 100, 46, 107, 32, 40, 110, 101, 101, 100, 46, 107, 32, 63, 97, 32, 63, 98, 41, 32, 63, 98, 41, 32, 61, 62, 32, 40, 110, 101, 101, 100, 46, 107, 32, 63, 97, 32, 63, 98, 41]),
 ([108, 111, 97, 100, 45, 115, 116, 111, 114, 101], [40, 108, 111, 97, 100, 46, 107, 32, 40, 115, 116, 111, 114, 101, 46, 107, 32, 63, 97, 32, 63, 98, 32, 63, 99, 41, 32, 63, 98, 41, 32, 61, 62, 32, 63, 99, 32, 105, 102, 32, 105, 110, 115, 105, 100, 101, 32, 63, 98, 32, 107]),
 ([108, 111, 97, 100, 45, 97, 112, 97, 114, 116], [40, 108, 111, 97, 100, 46, 107, 32, 40, 115, 116, 111, 114, 101, 46, 107, 32, 63, 97, 32, 63, 98, 32, 63, 99, 41, 32, 63, 100, 41, 32, 61, 62, 32, 40, 108, 111, 97, 100, 46, 107, 32, 63, 97, 32, 63, 100, 41, 32, 105, 102, 32, 97, 112, 97, 114, 116, 32, 63, 98, 32, 63, 100]),
 ([108, 111, 97, 100, 45, 111, 116, 104, 101, 114], [40, 108, 111, 97, 100, 46, 107, 32, 40, 115, 116, 111, 114, 101, 46, 108, 32, 63, 97, 32, 63, 98, 32, 63, 99, 41, 32, 63, 100, 41, 32, 61, 62, 32, 40, 108, 111, 97, 100, 46, 107, 32, 63, 97, 32, 63, 100, 41, 32, 105, 102, 32, 117, 110, 108, 105, 107, 101, 32, 107, 32, 108]),
 ([108, 111, 97, 100, 45, 110, 101, 101, 100], [40, 108, 111, 97, 100, 46, 107, 32, 40, 110, 101, 101, 100, 46, 108, 32, 63, 97, 32, 63, 98, 41, 32, 63, 99, 41, 32, 61, 62, 32, 40, 108, 111, 97, 100, 46, 107, 32, 63, 97, 32, 63, 99, 41]),
 ([108, 111, 97, 100, 45, 111, 117, 116], [40, 108, 111, 97, 100, 46, 107, 32, 40, 111, 117, 116, 32, 63, 97, 32, 63, 98, 41, 32, 63, 99, 41, 32, 61, 62, 32, 40, 108, 111, 97, 100, 46, 107, 32, 63, 97, 32, 63, 99, 41]),
 ([115, 116, 111, 114, 101, 45, 115, 116, 111, 114, 101], [40, 115, 116, 111, 114, 101, 46, 107, 32, 40, 115, 116, 111, 114, 101, 46, 107, 32, 63, 97, 32, 63, 98, 32, 63, 99, 41, 32, 63, 98, 32, 63, 100, 41, 32, 61, 62, 32, 40, 115, 116, 111, 114, 101, 46, 107, 32, 63, 97, 32, 63, 98, 32, 63, 100, 41]),
 ([115, 116, 111, 114, 101, 45, 115, 119, 97, 112], [40, 115, 116, 111, 114, 101, 46, 107, 32, 40, 115, 116, 111, 114, 101, 46, 107, 32, 63, 97, 32, 63, 98, 32, 63, 99, 41, 32, 63, 100, 32, 63, 101, 41, 32, 61, 62, 32, 40, 115, 116, 111, 114, 101, 46, 107, 32, 40, 115, 116, 111, 114, 101, 46, 107, 32, 63, 97, 32, 63, 100, 32, 63, 101, 41, 32, 63, 98, 32, 63, 99, 41, 32, 105, 102, 32, 97, 112, 97, 114, 116, 32, 63, 98, 32, 63, 100]),
 ([115, 116, 111, 114, 101, 45, 108, 111, 97, 100], [40, 115, 116, 111, 114, 101, 46, 107, 32, 63, 97, 32, 63, 98, 32, 40, 108, 111, 97, 100, 46, 107, 32, 63, 97, 32, 63, 98, 41, 41, 32, 61, 62, 32, 63, 97]),
 ([115, 116, 111, 114, 101, 45, 110, 101, 101, 100], [40, 110, 101, 101, 100, 46, 108, 32, 40, 115, 116, 111, 114, 101, 46, 107, 32, 63, 97, 32, 63, 98, 32, 63, 99, 41, 32, 63, 100, 41, 32, 61, 62, 32, 40, 115, 116, 111, 114, 101, 46, 107, 32, 40, 110, 101, 101, 100, 46, 108, 32, 63, 97, 32, 63, 100, 41, 32, 63, 98, 32, 63, 99, 41]),
 ([115, 116, 111, 114, 101, 45, 111, 117, 116], [40, 111, 117, 116, 32, 40, 115, 116, 111, 114, 101, 46, 107, 32, 63, 97, 32, 63, 98, 32, 63, 99, 41, 32, 63, 100, 41, 32, 61, 62, 32, 40, 115, 116, 111, 114, 101, 46, 107, 32, 40, 111, 117, 116, 32, 63, 97, 32, 63, 100, 41, 32, 63, 98, 32, 63, 99, 41]),
 ([114, 101, 116, 45, 110, 101, 101, 100], [40, 114, 101, 116, 32, 40, 110, 101, 101, 100, 46, 107, 32, 63, 97, 32, 63, 98, 41, 41, 32, 61, 62, 32, 40, 114, 101, 116, 32, 63, 97, 41]),
 ([114, 101, 116, 45, 111, 117, 116], [40, 114, 101, 116, 32, 40, 111, 117, 116, 32, 63, 97, 32, 63, 98, 41, 41, 32, 61, 62, 32, 40, 114, 101, 116, 32, 63, 97, 41]),
 ([114, 101, 116, 45, 115, 116, 111, 114, 101], [40, 114, 101, 116, 32, 40, 115, 116, 111, 114, 101, 46, 107, 32, 63, 97, 32, 63, 98, 32, 63, 99, 41, 41, 32, 61, 62, 32, 40, 114, 101, 116, 32, 63, 97, 41])]
def axText (s : Bs) : Option Bs := (axL.find? fun x => decide (x.1 = s)).map (·.2)
def axiomF (s : Bs) : Option Rl :=
 match axText s with
 | none => none
 | some t => match parseG (fun _ => none) ([114, 117, 108, 101, 32] ++ s ++ [58, 32] ++ t ++ [59]) with
  | .ok [r] => some r
  | _ => none
def parseF (s : Bs) : Except Er (List Rl) := parseG axiomF s
theorem T_u8s : SlT Tryz.prog 57 5 1 1 := by
 obtain ⟨i, h1, h2, h3, h4⟩ := info_parts (show (Tryz.prog.info? 5).map (fun i => (i.zero, i.size, i.bytes)) = some (some (.int .u8 0), 1, 1) from by kernel_rfl)
 exact ⟨Tryz.underlying57, ⟨i, _, h1, h2, h3, h4, rfl⟩, by omega⟩
def u8s (l : List UInt8) : List Value := l.map fun x => Value.int .u8 (x.toNat : Int)
def U8Blk (w : World) (g : Nat) (l : List UInt8) : Prop := Blk w g 5 (u8s l).toArray
theorem U8Blk.set_ {w : World} {g : Nat} {l : List UInt8} (h : U8Blk w g l) (i : Nat) (x : UInt8) : U8Blk (w.setCell ⟨g, i, none⟩ (.int .u8 (x.toNat : Int))) g (l.set i x) := by
 have := Blk.set_ h i (.int .u8 (x.toNat : Int));unfold U8Blk;rw [show (u8s (l.set i x)).toArray = (u8s l).toArray.setIfInBounds i (.int .u8 (x.toNat : Int)) by simp [u8s, List.map_set]];exact this
def kstr (l : List UInt8) : ByteArray := ⟨l.toArray⟩
theorem kx_kstr (l : List UInt8) : kx (kstr l) = l := kx_mk l
theorem kstr_size (l : List UInt8) : (kstr l).size = l.length := by rw [← kx_len, kx_kstr]
theorem run_at_str {s : ByteArray} {n i : Nat} (h : s.size = n) (hi : i < n) (w : World) : (Instr.index 9 (.string s) (.int .i64 (i : Int))).run Tryz.prog w = .ok (.int .u8 (((kx s).getD i 0).toNat : Int)) w := by
 rw [run_index_string w 9 s .i64 i Tryz.underlying9, dif_pos (by omega)]
 congr 3
 have : i < (kx s).length := by rw [kx_len]; omega
 simp only [List.getD, List.getElem?_eq_getElem this, Option.getD_some, Int.toNat_natCast];simp [kx, ByteArray.getElem_eq_getElem_data]
theorem str_beq (a b : List UInt8) : ((kstr a).toList == (kstr b).toList) = decide (a = b) := by
 rw [Bool.eq_iff_iff, beq_iff_eq, decide_eq_true_eq, ByteArray.toList_eq, ByteArray.toList_eq];simp [kstr]
theorem rIsPunct_c (c : UInt8) (w : World) : Calls Tryz.prog 59 #[.int .u8 c.toNat] w fun e w' => e = .returned (.bool (isPn c)) ∧ w' = w := by
 have HR : Hid (isPn c = decide (c.toNat = 40 ∨ c.toNat = 41 ∨ c.toNat = 59 ∨ c.toNat = 58 ∨ c.toNat = 44)) := rfl;obtain ⟨R, HRR⟩ := nm (isPn c);rw [HRR.out] at HR ⊢;obtain ⟨x, Hx⟩ := nm c.toNat;rw [Hx.out] at HR ⊢
 by_cases h1 : x = 40
 ·
  have f1 : ((x : Int) == 40) = true := by rw [h1]; rfl
  obtain rfl : R = true := by rw [HR.out]; exact decide_eq_true (by omega)
  clear h1;go_enter Tryz.func59, Tryz.ntmps59
  go_wp2_with fail
  go_ret;exact ⟨rfl, rfl⟩
 ·
  have f1 : ((x : Int) == 40) = false := by simp; omega
  by_cases h2 : x = 41
  ·
   have f2 : ((x : Int) == 41) = true := by rw [h2]; rfl
   obtain rfl : R = true := by rw [HR.out]; exact decide_eq_true (by omega)
   clear h1 h2;go_enter Tryz.func59, Tryz.ntmps59
   go_wp2_with fail
   go_ret;exact ⟨rfl, rfl⟩
  ·
   have f2 : ((x : Int) == 41) = false := by simp; omega
   by_cases h3 : x = 59
   ·
    have f3 : ((x : Int) == 59) = true := by rw [h3]; rfl
    obtain rfl : R = true := by rw [HR.out]; exact decide_eq_true (by omega)
    clear h1 h2 h3;go_enter Tryz.func59, Tryz.ntmps59
    go_wp2_with fail
    go_ret;exact ⟨rfl, rfl⟩
   ·
    have f3 : ((x : Int) == 59) = false := by simp; omega
    by_cases h4 : x = 58
    ·
     have f4 : ((x : Int) == 58) = true := by rw [h4]; rfl
     obtain rfl : R = true := by rw [HR.out]; exact decide_eq_true (by omega)
     clear h1 h2 h3 h4;go_enter Tryz.func59, Tryz.ntmps59
     go_wp2_with fail
     go_ret;exact ⟨rfl, rfl⟩
    ·
     have f4 : ((x : Int) == 58) = false := by simp; omega
     obtain ⟨b, f5⟩ : ∃ b, ((x : Int) == 44) = b := ⟨_, rfl⟩
     obtain rfl : R = b := by
      rw [HR.out, ← f5, Bool.eq_iff_iff];simp only [beq_iff_eq, decide_eq_true_eq];omega
     clear h1 h2 h3 h4;go_enter Tryz.func59, Tryz.ntmps59
     go_wp2_with fail
     go_ret;exact ⟨rfl, rfl⟩
theorem isCm_drop (l : Bs) (k : Nat) : isCm (l.drop k) = decide (k + 1 < l.length ∧ (l.getD k 0).toNat = 47 ∧ (l.getD (k + 1) 0).toNat = 47) := by
 by_cases h : k + 1 < l.length
 ·
  have h0 : k < l.length := by omega
  rw [List.drop_eq_getElem_cons h0, List.drop_eq_getElem_cons h];simp only [isCm, List.getD, List.getElem?_eq_getElem h, List.getElem?_eq_getElem h0, Option.getD_some, h, true_and]
 ·
  have hl : (l.drop k).length ≤ 1 := by rw [List.length_drop]; omega
  rw [decide_eq_false (fun q => h q.1)]
  match hd : l.drop k, hl with
  | [], _ => rfl
  | [_], _ => rfl
  | _ :: _ :: _, hl => simp at hl
theorem rIsComment_c (s : ByteArray) (k : Nat) (w : World) (hk : k ≤ 1000000000000000) :
  Calls Tryz.prog 58 #[.string s, .int .i64 k] w fun e w' => e = .returned (.bool (isCm ((kx s).drop k))) ∧ w' = w := by
 rw [isCm_drop, kx_len];obtain ⟨n, Hn⟩ := nm s.size;have hn := Hn.out;obtain ⟨R, HRR⟩ := nm (decide (k + 1 < n ∧ ((kx s).getD k 0).toNat = 47 ∧ ((kx s).getD (k + 1) 0).toNat = 47));rw [hn, HRR.out]
 by_cases h0 : k + 1 < n
 ·
  have f0 : decide ((k : Int) + 1 < (n : Int)) = true := decide_eq_true (by omega)
  have i1 := fun W => run_at_str Hn.out (show k < n by omega) W
  have i2 := fun W => run_at_str Hn.out h0 W
  rw [show ((k + 1 : Nat) : Int) = (k : Int) + 1 by omega] at i2;generalize ((kx s).getD k 0).toNat = a at i1 HRR;generalize ((kx s).getD (k + 1) 0).toNat = b at i2 HRR
  by_cases h1 : a = 47
  ·
   have f1 : ((a : Int) == 47) = true := by rw [h1]; rfl
   obtain ⟨z, f2⟩ : ∃ z, ((b : Int) == 47) = z := ⟨_, rfl⟩
   obtain rfl : R = z := by
    rw [← HRR.out, ← f2, Bool.eq_iff_iff];simp only [beq_iff_eq, decide_eq_true_eq];omega
   clear h1 HRR Hn h0;go_enter Tryz.func58, Tryz.ntmps58
   go_wp2_with fail
   go_ret;exact ⟨rfl, rfl⟩
  ·
   have f1 : ((a : Int) == 47) = false := by simp; omega
   obtain rfl : R = false := by rw [← HRR.out]; exact decide_eq_false (by omega)
   clear h1 HRR Hn h0 i2;go_enter Tryz.func58, Tryz.ntmps58
   go_wp2_with fail
   go_ret;exact ⟨rfl, rfl⟩
 ·
  have f0 : decide ((k : Int) + 1 < (n : Int)) = false := decide_eq_false (by omega)
  obtain rfl : R = false := by rw [← HRR.out]; exact decide_eq_false (by omega)
  clear HRR Hn h0;go_enter Tryz.func58, Tryz.ntmps58
  go_wp2_with fail
  go_ret;exact ⟨rfl, rfl⟩
def tcell (t : Tok) : List Value := [.string (kstr t.s), .int .i64 t.pos, .bool t.bad]
def tcells (L : List Tok) : List Value := L.flatMap tcell
theorem tcells_snoc (L : List Tok) (t : Tok) : tcells (L ++ [t]) = tcells L ++ [.string (kstr t.s), .int .i64 t.pos, .bool t.bad] := by simp [tcells, tcell]
theorem T_toks : SlT Tryz.prog 55 62 3 32 := by
 obtain ⟨i, h1, h2, h3, h4⟩ := info_parts (show (Tryz.prog.info? 62).map (fun i => (i.zero, i.size, i.bytes)) = some (some (.agg #[.string ⟨#[]⟩, .int .i64 0, .bool false]), 3, 32) from by kernel_rfl)
 exact ⟨Tryz.underlying55, ⟨i, _, h1, h2, h3, h4, rfl⟩, by omega⟩
theorem kstr_extract (s : ByteArray) (i j : Nat) : s.extract i j = kstr (((kx s).drop i).take (j - i)) := by
 apply kx_inj;rw [kx_kstr];simp [kx, ByteArray.data_extract, Array.toList_extract, List.extract_eq_take_drop]
theorem run_sub_str {s : ByteArray} {n i j : Nat} (h : s.size = n) (hij : i ≤ j) (hj : j ≤ n) (w : World) : (Instr.slice 9 (.string s) (some (.int .i64 (i : Int))) (some (.int .i64 (j : Int))) none).run Tryz.prog w = .ok (.string (kstr (((kx s).drop i).take (j - i)))) w := by
 rw [run_slice_string_if w 9 s .i64 .i64 i j Tryz.underlying9, if_pos (by omega), if_pos (by omega), kstr_extract];simp only [Int.toNat_natCast]
theorem tokL_fuel : ∀ (f g : Nat) (l : Bs) (o : Nat), l.length < f → l.length < g → tokL f l o = tokL g l o := by
 intro f
 induction f with
 | zero => intro g l o h; omega
 | succ f ih =>
  intro g l o hf hg;obtain ⟨g, rfl⟩ : ∃ g', g = g' + 1 := ⟨g - 1, by omega⟩
  match l with
  | [] => rfl
  | c :: r =>
   simp only [List.length_cons] at hf hg;simp only [tokL]
   split
   ·
    exact ih g r _ (by omega) (by omega)
   ·
    rename_i hs
    split
    ·
     rename_i hc
     have h1 : 1 ≤ clen (c :: r) := by
      unfold clen;rw [if_neg (fun q => hs (by unfold isSp; exact decide_eq_true (by omega)))];omega
     exact ih g _ _ (by rw [List.length_drop, List.length_cons]; omega) (by rw [List.length_drop, List.length_cons]; omega)
    ·
     rename_i hc
     split
     ·
      rw [ih g r _ (by omega) (by omega)]
     ·
      rename_i hp
      have h1 : 1 ≤ wlen (c :: r) := by
       unfold wlen;simp only [Bool.or_eq_true, decide_eq_true_eq, not_or] at hp
       rw [if_pos (by
        simp only [wordCh, Bool.and_eq_true, decide_eq_true_eq, Bool.not_eq_true']
        exact ⟨⟨by omega, by simpa using hp.1.1⟩, by simpa using hc⟩)]
       omega
      rw [ih g _ _ (by rw [List.length_drop, List.length_cons]; omega) (by rw [List.length_drop, List.length_cons]; omega)]
theorem drop_cons {l : Bs} {k : Nat} (h : k < l.length) : l.drop k = l.getD k 0 :: l.drop (k + 1) := by
 rw [List.drop_eq_getElem_cons h, getD_of h]
theorem clen_step {l : Bs} {k : Nat} (h : k < l.length) : clen (l.drop k) = if (l.getD k 0).toNat = 10 then 0 else clen (l.drop (k + 1)) + 1 := by rw [drop_cons h]; rfl
theorem wlen_cons (c : UInt8) (r : Bs) : wlen (c :: r) = if wordCh c && !isCm (c :: r) then wlen r + 1 else 0 := rfl
theorem wlen_step {l : Bs} {k : Nat} (h : k < l.length) : wlen (l.drop k) = if wordCh (l.getD k 0) && !isCm (l.drop k) then wlen (l.drop (k + 1)) + 1 else 0 := by
 conv => lhs; rw [drop_cons h, wlen_cons, ← drop_cons h]
section
variable {s : Bs} {n k j : Nat}
theorem tok_sp (hn : s.length = n) (hk : k < n) (h : isSp (s.getD k 0) = true) : tokL (n - k + 1) (s.drop k) k = tokL (n - (k + 1) + 1) (s.drop (k + 1)) (k + 1) := by
 rw [drop_cons (by omega : k < s.length)];simp only [tokL, h, if_true];rw [show n - (k + 1) + 1 = n - k by omega]
theorem tok_cm (hn : s.length = n) (hk : k < n) (h1 : isSp (s.getD k 0) = false) (h2 : isCm (s.drop k) = true) (hkj : k ≤ j) (hj : clen (s.drop k) = j - k) :
  k < j ∧ tokL (n - k + 1) (s.drop k) k = tokL (n - j + 1) (s.drop j) j := by
 have hd := drop_cons (by omega : k < s.length)
 have hc : 1 ≤ clen (s.drop k) := by
  rw [hd];unfold clen;rw [if_neg (fun q => by unfold isSp at h1; rw [decide_eq_false_iff_not] at h1; omega)];omega
 refine ⟨by omega, ?_⟩
 have e : (s.drop k).drop (clen (s.drop k)) = s.drop j := by rw [List.drop_drop, hj]; congr 1; omega
 have e2 : tokL (n - k + 1) (s.drop k) k = tokL (n - k) ((s.drop k).drop (clen (s.drop k))) (k + clen (s.drop k)) := by
  rw [hd] at h2 ⊢;simp only [tokL, h1, h2, Bool.false_eq_true, if_false, if_true]
 rw [e2, e, hj, show k + (j - k) = j by omega];exact tokL_fuel _ _ _ _ (by rw [List.length_drop]; omega) (by rw [List.length_drop]; omega)
theorem tok_pn (hn : s.length = n) (hk : k < n) (h1 : isSp (s.getD k 0) = false) (h2 : isCm (s.drop k) = false) (h3 : (isPn (s.getD k 0) || decide ((s.getD k 0).toNat < 33) || decide (126 < (s.getD k 0).toNat)) = true) :
  tokL (n - k + 1) (s.drop k) k = ⟨[s.getD k 0], k, !isPn (s.getD k 0)⟩ :: tokL (n - (k + 1) + 1) (s.drop (k + 1)) (k + 1) := by
 rw [drop_cons (by omega : k < s.length)] at h2 ⊢;simp only [tokL, h1, h2, h3, Bool.false_eq_true, if_false, if_true];rw [show n - (k + 1) + 1 = n - k by omega]
theorem tok_wd (hn : s.length = n) (hk : k < n) (h1 : isSp (s.getD k 0) = false) (h2 : isCm (s.drop k) = false) (h3 : (isPn (s.getD k 0) || decide ((s.getD k 0).toNat < 33) || decide (126 < (s.getD k 0).toNat)) = false) (hkj : k ≤ j) (hj : wlen (s.drop k) = j - k) :
  k < j ∧ tokL (n - k + 1) (s.drop k) k = ⟨(s.drop k).take (j - k), k, false⟩ :: tokL (n - j + 1) (s.drop j) j := by
 have hks : k < s.length := by omega
 have hc : 1 ≤ wlen (s.drop k) := by
  rw [wlen_step hks, h2];simp only [Bool.or_eq_false_iff, decide_eq_false_iff_not] at h3
  rw [if_pos (by
   simp only [wordCh, Bool.and_eq_true, decide_eq_true_eq, Bool.not_eq_true', Bool.not_false, and_true]
   exact ⟨⟨by omega, by omega⟩, h3.1.1⟩)]
  omega
 refine ⟨by omega, ?_⟩
 have e : (s.drop k).drop (wlen (s.drop k)) = s.drop j := by rw [List.drop_drop, hj]; congr 1; omega
 have e2 : tokL (n - k + 1) (s.drop k) k = ⟨(s.drop k).take (wlen (s.drop k)), k, false⟩ :: tokL (n - k) ((s.drop k).drop (wlen (s.drop k))) (k + wlen (s.drop k)) := by
  have hd := drop_cons hks;rw [hd] at h2 ⊢;simp only [tokL, h1, h2, h3, Bool.false_eq_true, if_false]
 rw [e2, e, hj, show k + (j - k) = j by omega]
 congr 1
 exact tokL_fuel _ _ _ _ (by rw [List.length_drop]; omega) (by rw [List.length_drop]; omega)
theorem tok_end (hn : s.length = n) : tokL (n - n + 1) (s.drop n) n = [⟨[], n, true⟩] := by
 rw [List.drop_of_length_le (by omega)];simp only [tokL]
theorem clen_end (hn : s.length = n) : clen (s.drop n) = 0 := by rw [List.drop_of_length_le (by omega)]; rfl
theorem wlen_end (hn : s.length = n) : wlen (s.drop n) = 0 := by rw [List.drop_of_length_le (by omega)]; rfl
end
def TokO (w : World) (A : Option Addr) (c : Nat) (L : List Tok) : Prop := Own w 62 3 A L.length c (tcells L)
set_option maxRecDepth 100000 in
set_option maxHeartbeats 4000000 in
theorem rTokenize_c (s : ByteArray) (w : World) (hs : s.size ≤ 100000000000) :
  Calls Tryz.prog 27 #[.string s] w fun e w' => ∃ (A : Option Addr) (c : Nat), e = .returned (.slice A (toksF (kx s)).length c) ∧ TokO w' A c (toksF (kx s)) ∧ (∀ k, At A k → w.heap.size ≤ k) ∧ (toksF (kx s)).length ≤ s.size + 1 ∧ Upd Non w w' := by
 obtain ⟨n, Hn⟩ := nm s.size;have hn := Hn.out
 have hkn : (kx s).length = n := by rw [kx_len, hn]
 rw [hn] at hs;have HKN := Lib.hid hkn;clear hkn;go_enter Tryz.func27, Tryz.ntmps27
 go_wp2_with fail
 go_loopg [3, 4] (n + 1) (fun g l p wr => ∃ (k : Nat) (A : Option Addr) (c : Nat) (L : List Tok), Hid (g = n + 1 - k) ∧ k ≤ n ∧ p = .int .i64 k ∧ l = .slice A L.length c ∧ TokO wr A c L ∧ (∀ j, At A j → w.heap.size ≤ j) ∧ Hid (L ++ tokL (n - k + 1) ((kx s).drop k) k = toksF (kx s)) ∧ L.length ≤ k ∧ Upd Non w wr)
 case atStart =>
  refine ⟨0, none, 0, [], rfl, by omega, rfl, rfl, Own.none_, fun j h => (At.none_ h).elim, ?_, by simp, Upd.refl⟩;show _ = _;rw [List.nil_append, List.drop_zero];unfold toksF;rw [HKN.out];rfl
 case round =>
  obtain ⟨k, A, c, L, Hg, hk, rfl, rfl, ho, hA, HT, hLk, hu⟩ := hrel;obtain ⟨W, rfl⟩ : ∃ x : World, x = wr := ⟨_, rfl⟩
  by_cases hlt : k < n
  ·
   have ti : decide ((k : Int) < (n : Int)) = true := decide_eq_true (by omega)
   have hkl : k < (kx s).length := by rw [HKN.out]; exact hlt
   have i1 := fun W => run_at_str Hn.out hlt W
   have hdr := Lib.hid (drop_cons hkl);obtain ⟨ch, HC⟩ := nm ((kx s).getD k 0);rw [HC.out] at i1 hdr;obtain ⟨x, Hx⟩ := nm ch.toNat;rw [Hx.out] at i1
   have HSP : Hid (isSp ch = decide (x = 32 ∨ x = 9 ∨ x = 10 ∨ x = 13)) := by show _ = _; rw [← Hx.out]; rfl
   obtain ⟨R, HR⟩ := nm (isSp ch);rw [HR.out] at HSP
   go_upto_region 10 with fail
   go_cut [56] (fun s wx => s = .bool R ∧ wx = W)
   case first =>
    by_cases h1 : x = 32
    ·
     have f1 : ((x : Int) == 32) = true := by rw [h1]; rfl
     obtain rfl : R = true := by rw [HSP.out]; exact decide_eq_true (by omega)
     clear h1
     go_wp2_with fail
     go_meet
     case rel => exact ⟨rfl, rfl⟩
    ·
     have f1 : ((x : Int) == 32) = false := by simp; omega
     by_cases h2 : x = 9
     ·
      have f2 : ((x : Int) == 9) = true := by rw [h2]; rfl
      obtain rfl : R = true := by rw [HSP.out]; exact decide_eq_true (by omega)
      clear h1 h2
      go_wp2_with fail
      go_meet
      case rel => exact ⟨rfl, rfl⟩
     ·
      have f2 : ((x : Int) == 9) = false := by simp; omega
      by_cases h3 : x = 10
      ·
       have f3 : ((x : Int) == 10) = true := by rw [h3]; rfl
       obtain rfl : R = true := by rw [HSP.out]; exact decide_eq_true (by omega)
       clear h1 h2 h3
       go_wp2_with fail
       go_meet
       case rel => exact ⟨rfl, rfl⟩
      ·
       have f3 : ((x : Int) == 10) = false := by simp; omega
       obtain ⟨b, f4⟩ : ∃ b, ((x : Int) == 13) = b := ⟨_, rfl⟩
       obtain rfl : R = b := by
        rw [HSP.out, ← f4, Bool.eq_iff_iff];simp only [beq_iff_eq, decide_eq_true_eq];omega
       clear h1 h2 h3
       go_wp2_with fail
       go_meet
       case rel => exact ⟨rfl, rfl⟩
   case rest =>
    obtain ⟨rfl, rfl⟩ := hcut
    cases R with
    | true =>
     have HT2 : Hid (L ++ tokL (n - (k + 1) + 1) ((kx s).drop (k + 1)) (k + 1) = toksF (kx s)) := by
      show _ = _;rw [← HT.out, tok_sp HKN.out hlt (by rw [HC.out]; exact HR.out)]
     clear hdr HT HSP
     go_wp2_with fail
     go_roundg (n + 1 - (k + 1))
     case measure => rw [Hg.out]; omega
     case rel => exact ⟨k + 1, A, c, L, rfl, by omega, by go_num, rfl, ho, hA, HT2, by omega, hu⟩
    | false =>
     have h1 : isSp ((kx s).getD k 0) = false := by rw [HC.out]; exact HR.out
     have H1 := Lib.hid h1;clear h1;have C1 := Lib.hid (rIsComment_c s k wc (by omega));obtain ⟨Q, HQ⟩ := nm (isCm ((kx s).drop k));rw [HQ.out] at C1;clear HSP hdr HR
     go_wp2_with fail
     refine C1.out.mono ?_;rintro e w1 ⟨rfl, rfl⟩
     cases Q with
     | true =>
      clear C1
      go_wp2_with fail
      go_loopg [4] (n + 1 - k) (fun g p wr => ∃ j : Nat, Hid (g = n + 1 - j) ∧ k ≤ j ∧ j ≤ n ∧ p = .int .i64 j ∧ Hid (clen ((kx s).drop k) = (j - k) + clen ((kx s).drop j)) ∧ wr = w1)
      case atStart => exact ⟨k, rfl, Nat.le_refl _, hk, rfl, by show _ = _; omega, rfl⟩
      case round =>
       obtain ⟨j, Hj, hkj, hj, rfl, HL, rfl⟩ := hrel
       by_cases hlj : j < n
       ·
        have tj : decide ((j : Int) < (n : Int)) = true := decide_eq_true (by omega)
        have hjl : j < (kx s).length := by rw [HKN.out]; exact hlj
        have i2 := fun W => run_at_str Hn.out hlj W
        have HS := Lib.hid (clen_step hjl);generalize ((kx s).getD j 0).toNat = y at i2 HS
        by_cases hy : y = 10
        ·
         have fy : ((y : Int) != 10) = false := by rw [hy]; rfl
         have HE0 : Hid (clen ((kx s).drop j) = 0) := by show _ = _; rw [HS.out, if_pos hy]
         clear hy HS;have HE : Hid (clen ((kx s).drop j) = 0) := HE0
         have hcl : clen ((kx s).drop k) = j - k := by rw [HL.out, HE.out]; rfl
         obtain ⟨hkj2, htk⟩ := tok_cm HKN.out hlt H1.out HQ.out hkj hcl
         have HT2 : Hid (L ++ tokL (n - j + 1) ((kx s).drop j) j = toksF (kx s)) := by show _ = _; rw [← HT.out, htk]
         clear HE HE0 hcl htk HT HL
         go_wp2_with fail
         go_roundg (n + 1 - j)
         case measure => rw [Hg.out]; omega
         case rel => exact ⟨j, A, c, L, rfl, hj, rfl, rfl, ho, hA, HT2, by omega, hu⟩
        ·
         have fy : ((y : Int) != 10) = true := by simp; omega
         have HL2 : Hid (clen ((kx s).drop k) = (j + 1 - k) + clen ((kx s).drop (j + 1))) := by show _ = _; rw [HL.out, HS.out, if_neg hy]; omega
         clear hy HS HL
         go_wp2_with fail
         go_roundg (n + 1 - (j + 1))
         case measure => rw [Hj.out]; omega
         case rel => exact ⟨j + 1, rfl, by omega, by omega, by go_num, HL2, rfl⟩
       ·
        have HJN : Hid (j = n) := by show _ = _; omega
        have tj : decide ((j : Int) < (n : Int)) = false := decide_eq_false (by omega)
        have HE0 : Hid (clen ((kx s).drop j) = 0) := by rw [HJN.out]; exact clen_end HKN.out
        have HE : Hid (clen ((kx s).drop j) = 0) := HE0
        have hcl : clen ((kx s).drop k) = j - k := by rw [HL.out, HE.out]; rfl
        obtain ⟨hkj2, htk⟩ := tok_cm HKN.out hlt H1.out HQ.out hkj hcl
        have HT2 : Hid (L ++ tokL (n - j + 1) ((kx s).drop j) j = toksF (kx s)) := by show _ = _; rw [← HT.out, htk]
        clear HE HE0 hcl htk HT HL
        go_wp2_with fail
        go_roundg (n + 1 - j)
        case measure => rw [Hg.out]; omega
        case rel => exact ⟨j, A, c, L, rfl, hj, rfl, rfl, ho, hA, HT2, by omega, hu⟩
     | false =>
      clear C1;obtain ⟨B, HB⟩ := nm (isPn ch || decide (x < 33) || decide (126 < x));have CP := Lib.hid (fun W => rIsPunct_c ch W);obtain ⟨pn, Hpn⟩ := nm (isPn ch);rw [Hpn.out] at HB CP;rw [Hx.out] at CP
      have h3 : (isPn ((kx s).getD k 0) || decide (((kx s).getD k 0).toNat < 33) || decide (126 < ((kx s).getD k 0).toNat)) = B := by rw [HC.out, Hx.out, Hpn.out]; exact HB.out
      have H3 := Lib.hid h3;clear h3
      go_upto_region 15 with fail
      go_cut [89] (fun s wx => s = .bool B ∧ wx = w1)
      case first =>
       have CP1 := Lib.hid (CP.out w1);clear CP
       cases pn with
       | true =>
        obtain rfl : B = true := by rw [← HB.out]; rfl
        go_wp2_with fail
        refine CP1.out.mono ?_;rintro e w2 ⟨rfl, rfl⟩
        go_wp2_with fail
        go_meet
        case rel => exact ⟨rfl, rfl⟩
       | false =>
        by_cases hx1 : x < 33
        ·
         have fx : decide ((x : Int) < 33) = true := decide_eq_true (by omega)
         obtain rfl : B = true := by rw [← HB.out]; simp [hx1]
         go_wp2_with fail
         refine CP1.out.mono ?_;rintro e w2 ⟨rfl, rfl⟩
         go_wp2_with fail
         go_meet
         case rel => exact ⟨rfl, rfl⟩
        ·
         have fx : decide ((x : Int) < 33) = false := decide_eq_false (by omega);obtain ⟨z, fz⟩ : ∃ z, decide ((126 : Int) < (x : Int)) = z := ⟨_, rfl⟩
         obtain rfl : B = z := by
          rw [← HB.out, ← fz];simp only [hx1, decide_false, Bool.or_false, Bool.false_or];rw [Bool.eq_iff_iff, decide_eq_true_eq, decide_eq_true_eq];omega
         clear hx1
         go_wp2_with fail
         refine CP1.out.mono ?_;rintro e w2 ⟨rfl, rfl⟩
         go_wp2_with fail
         go_meet
         case rel => exact ⟨rfl, rfl⟩
      case rest =>
       obtain ⟨rfl, hwc⟩ := hcut;subst hwc;obtain ⟨m, Hm⟩ := nm L.length
       have ho1 : Own wc 62 3 A m c (tcells L) := by rw [← Hm.out]; exact ho
       have hwA : w.heap.size ≤ wc.heap.size := hu.size;rw [Hm.out] at hLk ⊢;have HT := HT;have hu := hu;clear ho
       cases B with
       | true =>
        have hsl := fun W => run_sub_str Hn.out (show k ≤ k + 1 by omega) (show k + 1 ≤ n by omega) W
        rw [show ((k + 1 : Nat) : Int) = (k : Int) + 1 by omega, show ((kx s).drop k).take (k + 1 - k) = [ch] by rw [drop_cons hkl, HC.out, show k + 1 - k = 1 by omega]; rfl] at hsl
        have HT2 : Hid ((L ++ [(⟨[ch], k, !pn⟩ : Tok)]) ++ tokL (n - (k + 1) + 1) ((kx s).drop (k + 1)) (k + 1) = toksF (kx s)) := by
         show _ = _;rw [← HT.out, tok_pn HKN.out hlt H1.out HQ.out H3.out, HC.out, Hpn.out, List.append_assoc]; rfl
        have hw1 : IntKind.i64.wrap ((k : Int) + 1) = (k : Int) + 1 := i64w_of (by unfold I64; omega)
        go_upto_region 16 with fail
        obtain ⟨wD, HwD⟩ := nm wc.drew
        have uD : Upd Non wc wD := by rw [← HwD.out]; exact Upd.refl.drew
        have hoD := ho1.upd uD (fun _ _ f => f);have hsD := uD.size;refine wp_region_held_drew (S := fun _ => True) (by kernel_rfl) trivial (fun hHeld => ?_);rw [HwD.out];refine wpT 0 ?_
        try simp only [put_y, put_z]
        refine wpT 1 ?_
        try simp only [put_y, put_z]
        refine wpT 2 ?_
        try simp only [put_y, put_z]
        refine wpT 3 ?_
        try simp only [put_y, put_z]
        refine wpT 4 ?_
        try simp only [put_y, put_z]
        refine wpT 5 ?_
        try simp only [put_y, put_z]
        refine wpT 6 ?_
        try simp only [put_y, put_z]
        refine wpT 7 ?_
        try simp only [put_y, put_z]
        refine wpAnyH_takeC (i := 8) (v := ?v1) rfl (by kernel_rfl) (by kernel_rfl) (by kernel_rfl) (fun _ _ _ h => h) ⟨by rfl, ?f1, ?a1, ?r1, ?c1⟩ (by assumption) ?m1
        case r1 => intro w; go_simp; constructor <;> with_reducible rfl
        case c1 => intro W hSw; refine (CP.out W).mono ?_; rintro e w' ⟨rfl, rfl⟩; constructor <;> with_reducible rfl
        try simp only [put_y, put_z]
        refine wpT 9 ?_
        try simp only [put_y, put_z]
        refine wpT 10 ?_
        try simp only [put_y, put_z]
        refine wpAnyH_ready (rs := [11]) (by kernel_rfl) (by simp) ?_;refine AllReadyH.cons rfl (fun K hK => ?_) AllReadyH.nil;go_simp;refine hK.out _ _ ?_ (fun hHeld => ?_)
        ·
         exact trivial
        clear hK K
        try simp only [put_y, put_z]
        refine wpAnyH_ready (rs := [12]) (by kernel_rfl) (by simp) ?_;refine AllReadyH.cons rfl (fun K hK => ?_) AllReadyH.nil;refine step_app rfl rfl T_toks rfl (hoD.alloc _) rfl (Sl.new _ _ _) rfl (by simp [Value.oneCell']) (by simp only [maxLen]; omega) (by omega) ?_;intro A8 c8 w8 ho8 hu8 hat8;refine hK.out _ _ ?_ (fun hHeld => ?_)
        ·
         exact trivial
        clear hK K
        try simp only [put_y, put_z]
        refine wpT 13 ?_
        try simp only [put_y, put_z]
        refine wpAnyH_done (by kernel_rfl) ?_ _;clear hHeld CP hsl i1
        have e8 : Own w8 62 3 A8 (L ++ [(⟨[ch], k, !pn⟩ : Tok)]).length c8 (tcells (L ++ [(⟨[ch], k, !pn⟩ : Tok)])) := by
         rw [tcells_snoc, List.length_append, Hm.out]; exact ho8
        have hU8 : Upd Non w w8 := (hu.then_non (uD.alloc _)).trans hu8 (fun i hi h => by have := hA i h; omega);have HO8 := Lib.hid e8
        have HA8 : Hid (∀ j, At A8 j → w.heap.size ≤ j) := fun j h => by
         rcases hat8 j h with h | h
         ·
          exact hA j h
         ·
          rw [h]; simp; omega
        clear ho8 e8 hu8 hat8 ho1 hoD
        go_wp2_with fail
        go_roundg (n + 1 - (k + 1))
        case measure => rw [Hg.out]; omega
        case rel => exact ⟨k + 1, A8, c8, L ++ [(⟨[ch], k, !pn⟩ : Tok)], rfl, by omega, by go_num, by rw [List.length_append, Hm.out]; rfl, HO8.out, HA8.out, HT2, by rw [List.length_append, Hm.out, List.length_singleton]; omega, hU8⟩
       | false =>
        clear CP i1 hwA
        go_wp2_with fail
        go_loopg [6] (n + 1 - k) (fun g p wr => ∃ j : Nat, Hid (g = n + 1 - j) ∧ k ≤ j ∧ j ≤ n ∧ p = .int .i64 j ∧ Hid (wlen ((kx s).drop k) = (j - k) + wlen ((kx s).drop j)) ∧ wr = wc)
        case atStart => exact ⟨k, rfl, Nat.le_refl _, hk, rfl, by show _ = _; omega, rfl⟩
        case round =>
         obtain ⟨j, Hj, hkj, hj, rfl, HL, hwr⟩ := hrel;subst hwr;obtain ⟨D, HD⟩ := nm (decide (j < n) && (wordCh ((kx s).getD j 0) && !isCm ((kx s).drop j)))
         go_upto_region 6 with fail
         go_cut [43] (fun s wx => s = .bool D ∧ wx = wr)
         case first =>
          clear ho1 hA HT H1 H3 HQ hu HC Hx
          by_cases hlj : j < n
          ·
           have tj : decide ((j : Int) < (n : Int)) = true := decide_eq_true (by omega)
           have i2 := fun W => run_at_str Hn.out hlj W
           have C2 := Lib.hid (rIsComment_c s j wr (by omega));obtain ⟨q, Hq⟩ := nm (isCm ((kx s).drop j));rw [Hq.out] at C2 HD;generalize (kx s).getD j 0 = cj at i2 HD;have CP2 := Lib.hid (rIsPunct_c cj wr);have HW : Hid (wordCh cj = (decide (33 ≤ cj.toNat ∧ cj.toNat ≤ 126) && !isPn cj)) := rfl;obtain ⟨pj, Hpj⟩ := nm (isPn cj);rw [Hpj.out] at CP2 HW;rw [HW.out] at HD;clear HW Hpj
           generalize cj.toNat = y at i2 HD CP2
           by_cases hy1 : 33 ≤ y
           ·
            have fy1 : decide ((33 : Int) ≤ (y : Int)) = true := decide_eq_true (by omega)
            by_cases hy2 : y ≤ 126
            ·
             have fy2 : decide ((y : Int) ≤ 126) = true := decide_eq_true (by omega)
             obtain rfl : D = (!pj && !q) := by rw [← HD.out]; simp [hlj, hy1, hy2]
             clear HD
             cases pj with
             | true =>
              go_wp2_with fail
              refine CP2.out.mono ?_;rintro e w3 ⟨rfl, rfl⟩
              go_wp2_with fail
              go_meet
              case rel => exact ⟨rfl, rfl⟩
             | false =>
              cases q with
              | true =>
               go_wp2_with fail
               refine CP2.out.mono ?_;rintro e w3 ⟨rfl, rfl⟩
               go_wp2_with fail
               refine C2.out.mono ?_;rintro e w4 ⟨rfl, rfl⟩
               go_wp2_with fail
               go_meet
               case rel => exact ⟨rfl, rfl⟩
              | false =>
               go_wp2_with fail
               refine CP2.out.mono ?_;rintro e w3 ⟨rfl, rfl⟩
               go_wp2_with fail
               refine C2.out.mono ?_;rintro e w4 ⟨rfl, rfl⟩
               go_wp2_with fail
               go_meet
               case rel => exact ⟨rfl, rfl⟩
            ·
             have fy2 : decide ((y : Int) ≤ 126) = false := decide_eq_false (by omega)
             obtain rfl : D = false := by rw [← HD.out]; simp [hy2]
             clear HD
             go_wp2_with fail
             go_meet
             case rel => exact ⟨rfl, rfl⟩
           ·
            have fy1 : decide ((33 : Int) ≤ (y : Int)) = false := decide_eq_false (by omega)
            obtain rfl : D = false := by rw [← HD.out]; simp [hy1]
            clear HD
            go_wp2_with fail
            go_meet
            case rel => exact ⟨rfl, rfl⟩
          ·
           have tj : decide ((j : Int) < (n : Int)) = false := decide_eq_false (by omega)
           obtain rfl : D = false := by rw [← HD.out]; simp [hlj]
           clear HD
           go_wp2_with fail
           go_meet
           case rel => exact ⟨rfl, rfl⟩
         case rest =>
          obtain ⟨rfl, hwc⟩ := hcut;subst hwc
          cases D with
          | true =>
           have hd := HD.out;simp only [Bool.and_eq_true, decide_eq_true_eq] at hd
           have HL2 : Hid (wlen ((kx s).drop k) = (j + 1 - k) + wlen ((kx s).drop (j + 1))) := by
            show _ = _;rw [HL.out, wlen_step (by rw [HKN.out]; exact hd.1), if_pos (by simpa using hd.2)];omega
           have hj2 := hd.1;clear hd HD HL
           go_wp2_with fail
           go_roundg (n + 1 - (j + 1))
           case measure => rw [Hj.out]; omega
           case rel => exact ⟨j + 1, rfl, by omega, by omega, by go_num, HL2, rfl⟩
          | false =>
           have hcl : wlen ((kx s).drop k) = j - k := by
            rw [HL.out]
            by_cases hjn : j < n
            ·
             have hd := HD.out;rw [decide_eq_true hjn, Bool.true_and] at hd;rw [wlen_step (by rw [HKN.out]; exact hjn), hd];simp
            ·
             rw [show j = n by omega, wlen_end HKN.out]; rfl
           obtain ⟨hkj2, htk⟩ := tok_wd HKN.out hlt H1.out HQ.out H3.out hkj hcl
           have hsl := fun W => run_sub_str Hn.out hkj hj W
           obtain ⟨wd, Hwd⟩ := nm (((kx s).drop k).take (j - k));rw [Hwd.out] at hsl htk
           have HT2 : Hid ((L ++ [(⟨wd, k, false⟩ : Tok)]) ++ tokL (n - j + 1) ((kx s).drop j) j = toksF (kx s)) := by
            show _ = _;rw [← HT.out, htk, List.append_assoc]; rfl
           have hwA : w.heap.size ≤ wc.heap.size := hu.size;clear HD hcl htk HL
           go_wp2_with (at_builtin; refine wpList_app rfl rfl T_toks rfl (ho1.alloc _) rfl (Sl.new _ _ _) rfl (by simp [Value.oneCell']) (by simp only [maxLen]; omega) (by omega) ?_; intro A8 c8 w8 ho8 hu8 hat8)
           have e8 : Own w8 62 3 A8 (L ++ [(⟨wd, k, false⟩ : Tok)]).length c8 (tcells (L ++ [(⟨wd, k, false⟩ : Tok)])) := by
            rw [tcells_snoc, List.length_append, Hm.out]; exact ho8
           have hU8 : Upd Non w w8 := (hu.alloc _).trans hu8 (fun i hi h => by have := hA i h; omega);have HO8 := Lib.hid e8
           have HA8 : Hid (∀ j, At A8 j → w.heap.size ≤ j) := fun j h => by
            rcases hat8 j h with h | h
            ·
             exact hA j h
            ·
             rw [h]; simp; omega
           clear ho8 e8 hu8 hat8 ho1
           go_wp2_with fail
           go_roundg (n + 1 - j)
           case measure => rw [Hg.out]; omega
           case rel => exact ⟨j, A8, c8, L ++ [(⟨wd, k, false⟩ : Tok)], rfl, hj, rfl, by rw [List.length_append, Hm.out]; rfl, HO8.out, HA8.out, HT2, by rw [List.length_append, Hm.out, List.length_singleton]; omega, hU8⟩
  ·
   obtain rfl : n = k := by omega
   have hte : L ++ [(⟨[], n, true⟩ : Tok)] = toksF (kx s) := by rw [← HT.out, tok_end HKN.out]
   have HTE := Lib.hid hte;obtain ⟨m, Hm⟩ := nm L.length
   have ho1 : Own W 62 3 A m c (tcells L) := by rw [← Hm.out]; exact ho
   have HLM : Hid ((toksF (kx s)).length = m + 1) := by show _ = _; rw [← HTE.out, List.length_append, Hm.out]; rfl
   have hwA : w.heap.size ≤ W.heap.size := hu.size;rw [Hm.out] at hLk ⊢;clear ho HT hte
   go_wp2_with (at_builtin; refine wpList_app rfl rfl T_toks rfl (ho1.alloc _) rfl (Sl.new _ _ _) rfl (by simp [Value.oneCell']) (by simp only [maxLen]; omega) (by omega) ?_; intro A8 c8 w8 ho8 hu8 hat8)
   go_ret;have hl8 := HLM.out;refine ⟨A8, c8, by rw [hl8]; rfl, ?_, fun j h => ?_, by omega, (hu.alloc _).trans hu8 (fun i hi h => by have := hA i h; omega)⟩
   ·
    unfold TokO;rw [HLM.out, ← HTE.out, tcells_snoc]; exact ho8
   ·
    rcases hat8 j h with h | h
    ·
     exact hA j h
    ·
     rw [h]; simp; omega
theorem xIsDelim_c (c : UInt8) (w : World) : Calls Tryz.prog 82 #[.int .u8 c.toNat] w fun e w' => e = .returned (.bool (isPn c)) ∧ w' = w := by
 have HR : Hid (isPn c = decide (c.toNat = 40 ∨ c.toNat = 41 ∨ c.toNat = 59 ∨ c.toNat = 58 ∨ c.toNat = 44)) := rfl;obtain ⟨R, HRR⟩ := nm (isPn c);rw [HRR.out] at HR ⊢;obtain ⟨x, Hx⟩ := nm c.toNat;rw [Hx.out] at HR ⊢
 by_cases h1 : x = 40
 ·
  have f1 : ((x : Int) == 40) = true := by rw [h1]; rfl
  obtain rfl : R = true := by rw [HR.out]; exact decide_eq_true (by omega)
  clear h1;go_enter Tryz.func82, Tryz.ntmps82
  go_wp2_with fail
  go_ret;exact ⟨rfl, rfl⟩
 ·
  have f1 : ((x : Int) == 40) = false := by simp; omega
  by_cases h2 : x = 41
  ·
   have f2 : ((x : Int) == 41) = true := by rw [h2]; rfl
   obtain rfl : R = true := by rw [HR.out]; exact decide_eq_true (by omega)
   clear h1 h2;go_enter Tryz.func82, Tryz.ntmps82
   go_wp2_with fail
   go_ret;exact ⟨rfl, rfl⟩
  ·
   have f2 : ((x : Int) == 41) = false := by simp; omega
   by_cases h3 : x = 59
   ·
    have f3 : ((x : Int) == 59) = true := by rw [h3]; rfl
    obtain rfl : R = true := by rw [HR.out]; exact decide_eq_true (by omega)
    clear h1 h2 h3;go_enter Tryz.func82, Tryz.ntmps82
    go_wp2_with fail
    go_ret;exact ⟨rfl, rfl⟩
   ·
    have f3 : ((x : Int) == 59) = false := by simp; omega
    by_cases h4 : x = 58
    ·
     have f4 : ((x : Int) == 58) = true := by rw [h4]; rfl
     obtain rfl : R = true := by rw [HR.out]; exact decide_eq_true (by omega)
     clear h1 h2 h3 h4;go_enter Tryz.func82, Tryz.ntmps82
     go_wp2_with fail
     go_ret;exact ⟨rfl, rfl⟩
    ·
     have f4 : ((x : Int) == 58) = false := by simp; omega
     obtain ⟨b, f5⟩ : ∃ b, ((x : Int) == 44) = b := ⟨_, rfl⟩
     obtain rfl : R = b := by
      rw [HR.out, ← f5, Bool.eq_iff_iff];simp only [beq_iff_eq, decide_eq_true_eq];omega
     clear h1 h2 h3 h4;go_enter Tryz.func82, Tryz.ntmps82
     go_wp2_with fail
     go_ret;exact ⟨rfl, rfl⟩
def xtcells (L : List (Bs × Nat)) : List Value := L.flatMap fun t => [.string (kstr t.1), .int .i64 t.2]
theorem xtcells_snoc (L : List (Bs × Nat)) (s : Bs) (n : Nat) : xtcells (L ++ [(s, n)]) = xtcells L ++ [.string (kstr s), .int .i64 n] := by simp [xtcells]
theorem T_xtoks : SlT Tryz.prog 83 120 2 24 := by
 obtain ⟨i, h1, h2, h3, h4⟩ := info_parts (show (Tryz.prog.info? 120).map (fun i => (i.zero, i.size, i.bytes)) = some (some (.agg #[.string ⟨#[]⟩, .int .i64 0]), 2, 24) from by kernel_rfl)
 exact ⟨Tryz.underlying83, ⟨i, _, h1, h2, h3, h4, rfl⟩, by omega⟩
def gf (l : List Tok) : List (Bs × Nat) × Nat := (goodT l, finT l)
theorem gf_good (s : Bs) (n : Nat) (l : List Tok) : gf (⟨s, n, false⟩ :: l) = ((s, n) :: (gf l).1, (gf l).2) := rfl
theorem gf_bad (s : Bs) (n : Nat) (l : List Tok) : gf (⟨s, n, true⟩ :: l) = ([], n) := rfl
set_option maxRecDepth 100000 in
set_option maxHeartbeats 4000000 in
theorem xTokens_c (s : ByteArray) (w : World) (hs : s.size ≤ 100000000000) :
  Calls Tryz.prog 41 #[.string s] w fun e w' => ∃ (A : Option Addr) (c : Nat) (m : Int), e = .returned (.tuple #[.slice A (goodT (toksF (kx s))).length c, .int .i64 m]) ∧ Own w' 120 2 A (goodT (toksF (kx s))).length c (xtcells (goodT (toksF (kx s)))) ∧ (∀ k, At A k → w.heap.size ≤ k) ∧ (goodT (toksF (kx s))).length ≤ s.size ∧ finT (toksF (kx s)) ≤ s.size ∧ m = (if finT (toksF (kx s)) < s.size then (finT (toksF (kx s)) : Int) else -1) ∧ Upd Non w w' := by
 obtain ⟨n, Hn⟩ := nm s.size;have hn := Hn.out
 have hkn : (kx s).length = n := by rw [kx_len, hn]
 rw [hn] at hs ⊢;have HKN := Lib.hid hkn;clear hkn;obtain ⟨GT, HGT⟩ := nm (goodT (toksF (kx s)));obtain ⟨FT, HFT⟩ := nm (finT (toksF (kx s)));rw [HGT.out, HFT.out]
 have HG : Hid (gf (toksF (kx s)) = (GT, FT)) := by show _ = _; unfold gf; rw [HGT.out, HFT.out]
 clear HGT HFT;obtain ⟨mv, Hmv⟩ := nm (if FT < n then (FT : Int) else -1);rw [Hmv.out];go_enter Tryz.func41, Tryz.ntmps41
 go_wp2_with fail
 go_loopg [4, 5] (n + 1) (fun g l p wr => ∃ (k : Nat) (A : Option Addr) (c : Nat) (L : List (Bs × Nat)), Hid (g = n + 1 - k) ∧ k ≤ n ∧ p = .int .i64 k ∧ l = .slice A L.length c ∧ Own wr 120 2 A L.length c (xtcells L) ∧ (∀ j, At A j → w.heap.size ≤ j) ∧ Hid ((L ++ (gf (tokL (n - k + 1) ((kx s).drop k) k)).1, (gf (tokL (n - k + 1) ((kx s).drop k) k)).2) = (GT, FT)) ∧ L.length ≤ k ∧ Upd Non w wr)
 case atStart =>
  refine ⟨0, none, 0, [], rfl, by omega, rfl, rfl, Own.none_, fun j h => (At.none_ h).elim, ?_, by simp, Upd.refl⟩;show _ = _;rw [List.nil_append, List.drop_zero, ← HG.out];unfold toksF;rw [HKN.out];rfl
 case round =>
  obtain ⟨k, A, c, L, Hg, hk, rfl, rfl, ho, hA, HT, hLk, hu⟩ := hrel;obtain ⟨W, rfl⟩ : ∃ x : World, x = wr := ⟨_, rfl⟩
  by_cases hlt : k < n
  ·
   have ti : decide ((k : Int) < (n : Int)) = true := decide_eq_true (by omega)
   have hkl : k < (kx s).length := by rw [HKN.out]; exact hlt
   have i1 := fun W => run_at_str Hn.out hlt W
   have hdr := Lib.hid (drop_cons hkl);obtain ⟨ch, HC⟩ := nm ((kx s).getD k 0);rw [HC.out] at i1 hdr;obtain ⟨x, Hx⟩ := nm ch.toNat;rw [Hx.out] at i1
   have hx256 : x < 256 := by rw [← Hx.out]; exact ch.toNat_lt
   have HSP : Hid (isSp ch = decide (x = 32 ∨ x = 9 ∨ x = 10 ∨ x = 13)) := by show _ = _; rw [← Hx.out]; rfl
   obtain ⟨R, HR⟩ := nm (isSp ch);rw [HR.out] at HSP
   go_upto_region 6 with fail
   go_cut [17] (fun s wx => s = .bool R ∧ wx = W)
   case first =>
    by_cases h1 : x = 32
    ·
     have f1 : ((x : Int) == 32) = true := by rw [h1]; rfl
     obtain rfl : R = true := by rw [HSP.out]; exact decide_eq_true (by omega)
     clear h1
     go_wp2_with fail
     go_meet
     case rel => exact ⟨rfl, rfl⟩
    ·
     have f1 : ((x : Int) == 32) = false := by simp; omega
     by_cases h2 : x = 9
     ·
      have f2 : ((x : Int) == 9) = true := by rw [h2]; rfl
      obtain rfl : R = true := by rw [HSP.out]; exact decide_eq_true (by omega)
      clear h1 h2
      go_wp2_with fail
      go_meet
      case rel => exact ⟨rfl, rfl⟩
     ·
      have f2 : ((x : Int) == 9) = false := by simp; omega
      by_cases h3 : x = 10
      ·
       have f3 : ((x : Int) == 10) = true := by rw [h3]; rfl
       obtain rfl : R = true := by rw [HSP.out]; exact decide_eq_true (by omega)
       clear h1 h2 h3
       go_wp2_with fail
       go_meet
       case rel => exact ⟨rfl, rfl⟩
      ·
       have f3 : ((x : Int) == 10) = false := by simp; omega
       obtain ⟨b, f4⟩ : ∃ b, ((x : Int) == 13) = b := ⟨_, rfl⟩
       obtain rfl : R = b := by
        rw [HSP.out, ← f4, Bool.eq_iff_iff];simp only [beq_iff_eq, decide_eq_true_eq];omega
       clear h1 h2 h3
       go_wp2_with fail
       go_meet
       case rel => exact ⟨rfl, rfl⟩
   case rest =>
    obtain ⟨rfl, rfl⟩ := hcut
    cases R with
    | true =>
     have HT2 : Hid ((L ++ (gf (tokL (n - (k + 1) + 1) ((kx s).drop (k + 1)) (k + 1))).1, (gf (tokL (n - (k + 1) + 1) ((kx s).drop (k + 1)) (k + 1))).2) = (GT, FT)) := by
      show _ = _;rw [← HT.out, tok_sp HKN.out hlt (by rw [HC.out]; exact HR.out)]
     clear hdr HT HSP
     go_wp2_with fail
     go_roundg (n + 1 - (k + 1))
     case measure => rw [Hg.out]; omega
     case rel => exact ⟨k + 1, A, c, L, rfl, by omega, by go_num, rfl, ho, hA, HT2, by omega, hu⟩
    | false =>
     have h1 : isSp ((kx s).getD k 0) = false := by rw [HC.out]; exact HR.out
     have H1 := Lib.hid h1;clear h1;obtain ⟨Q, HQ⟩ := nm (isCm ((kx s).drop k))
     have HQE : Hid (Q = decide (k + 1 < n ∧ x = 47 ∧ ((kx s).getD (k + 1) 0).toNat = 47)) := by
      show _ = _;rw [← HQ.out, isCm_drop, HKN.out, HC.out, Hx.out]
     clear HSP hdr HR
     go_upto_region 8 with fail
     go_cut [34] (fun s wx => s = .bool Q ∧ wx = wc)
     case first =>
      clear H1 HQ HT hA ho hu
      by_cases h47 : x = 47
      ·
       have f1 : ((x : Int) == 47) = true := by rw [h47]; rfl
       by_cases hk1 : k + 1 < n
       ·
        have f0 : decide ((k : Int) + 1 < (n : Int)) = true := decide_eq_true (by omega)
        have i2 := fun W => run_at_str Hn.out hk1 W
        rw [show ((k + 1 : Nat) : Int) = (k : Int) + 1 by omega] at i2;generalize ((kx s).getD (k + 1) 0).toNat = b at i2 HQE;obtain ⟨z, f2⟩ : ∃ z, ((b : Int) == 47) = z := ⟨_, rfl⟩
        obtain rfl : Q = z := by
         rw [HQE.out, ← f2, Bool.eq_iff_iff];simp only [beq_iff_eq, decide_eq_true_eq];omega
        clear h47 HQE
        go_wp2_with fail
        go_meet
        case rel => exact ⟨rfl, rfl⟩
       ·
        have f0 : decide ((k : Int) + 1 < (n : Int)) = false := decide_eq_false (by omega)
        obtain rfl : Q = false := by rw [HQE.out]; exact decide_eq_false (by omega)
        clear h47 HQE
        go_wp2_with fail
        go_meet
        case rel => exact ⟨rfl, rfl⟩
      ·
       have f1 : ((x : Int) == 47) = false := by simp; omega
       obtain rfl : Q = false := by rw [HQE.out]; exact decide_eq_false (by omega)
       clear h47 HQE
       go_wp2_with fail
       go_meet
       case rel => exact ⟨rfl, rfl⟩
     case rest =>
      obtain ⟨rfl, hwc⟩ := hcut;subst hwc;clear HQE
      cases Q with
      | true =>
       go_wp2_with fail
       go_loopg [5] (n + 1 - k) (fun g p wr => ∃ j : Nat, Hid (g = n + 1 - j) ∧ k ≤ j ∧ j ≤ n ∧ p = .int .i64 j ∧ Hid (clen ((kx s).drop k) = (j - k) + clen ((kx s).drop j)) ∧ wr = wc)
       case atStart => exact ⟨k, rfl, Nat.le_refl _, hk, rfl, by show _ = _; omega, rfl⟩
       case round =>
        obtain ⟨j, Hj, hkj, hj, rfl, HL, rfl⟩ := hrel
        by_cases hlj : j < n
        ·
         have tj : decide ((j : Int) < (n : Int)) = true := decide_eq_true (by omega)
         have hjl : j < (kx s).length := by rw [HKN.out]; exact hlj
         have i2 := fun W => run_at_str Hn.out hlj W
         have HS := Lib.hid (clen_step hjl);generalize ((kx s).getD j 0).toNat = y at i2 HS
         by_cases hy : y = 10
         ·
          have fy : ((y : Int) != 10) = false := by rw [hy]; rfl
          have HE0 : Hid (clen ((kx s).drop j) = 0) := by show _ = _; rw [HS.out, if_pos hy]
          clear hy HS;have HE : Hid (clen ((kx s).drop j) = 0) := HE0
          have hcl : clen ((kx s).drop k) = j - k := by rw [HL.out, HE.out]; rfl
          obtain ⟨hkj2, htk⟩ := tok_cm HKN.out hlt H1.out HQ.out hkj hcl
          have HT2 : Hid ((L ++ (gf (tokL (n - j + 1) ((kx s).drop j) j)).1, (gf (tokL (n - j + 1) ((kx s).drop j) j)).2) = (GT, FT)) := by show _ = _; rw [← HT.out, htk]
          clear HE HE0 hcl htk HT HL
          go_wp2_with fail
          go_roundg (n + 1 - j)
          case measure => rw [Hg.out]; omega
          case rel => exact ⟨j, A, c, L, rfl, hj, rfl, rfl, ho, hA, HT2, by omega, hu⟩
         ·
          have fy : ((y : Int) != 10) = true := by simp; omega
          have HL2 : Hid (clen ((kx s).drop k) = (j + 1 - k) + clen ((kx s).drop (j + 1))) := by show _ = _; rw [HL.out, HS.out, if_neg hy]; omega
          clear hy HS HL
          go_wp2_with fail
          go_roundg (n + 1 - (j + 1))
          case measure => rw [Hj.out]; omega
          case rel => exact ⟨j + 1, rfl, by omega, by omega, by go_num, HL2, rfl⟩
        ·
         have HJN : Hid (j = n) := by show _ = _; omega
         have tj : decide ((j : Int) < (n : Int)) = false := decide_eq_false (by omega)
         have HE0 : Hid (clen ((kx s).drop j) = 0) := by rw [HJN.out]; exact clen_end HKN.out
         have HE : Hid (clen ((kx s).drop j) = 0) := HE0
         have hcl : clen ((kx s).drop k) = j - k := by rw [HL.out, HE.out]; rfl
         obtain ⟨hkj2, htk⟩ := tok_cm HKN.out hlt H1.out HQ.out hkj hcl
         have HT2 : Hid ((L ++ (gf (tokL (n - j + 1) ((kx s).drop j) j)).1, (gf (tokL (n - j + 1) ((kx s).drop j) j)).2) = (GT, FT)) := by show _ = _; rw [← HT.out, htk]
         clear HE HE0 hcl htk HT HL
         go_wp2_with fail
         go_roundg (n + 1 - j)
         case measure => rw [Hg.out]; omega
         case rel => exact ⟨j, A, c, L, rfl, hj, rfl, rfl, ho, hA, HT2, by omega, hu⟩
      | false =>
       obtain ⟨pn, Hpn⟩ := nm (isPn ch);have CP := Lib.hid (fun W => xIsDelim_c ch W);rw [Hpn.out, Hx.out] at CP;have CP1 := Lib.hid (CP.out wc)
       have h3 : (isPn ((kx s).getD k 0) || decide (((kx s).getD k 0).toNat < 33) || decide (126 < ((kx s).getD k 0).toNat)) = (pn || decide (x < 33) || decide (126 < x)) := by rw [HC.out, Hx.out, Hpn.out]
       have H3 := Lib.hid h3;obtain ⟨m, Hm⟩ := nm L.length
       have ho1 : Own wc 120 2 A m c (xtcells L) := by rw [← Hm.out]; exact ho
       have hwA : w.heap.size ≤ wc.heap.size := hu.size;rw [Hm.out] at hLk ⊢;clear h3 ho
       go_wp2_with fail
       refine CP1.out.mono ?_;rintro e w2 ⟨rfl, rfl⟩;clear CP1
       cases pn with
       | true =>
        have hsl := fun W => run_sub_str Hn.out (show k ≤ k + 1 by omega) (show k + 1 ≤ n by omega) W
        rw [show ((k + 1 : Nat) : Int) = (k : Int) + 1 by omega, show ((kx s).drop k).take (k + 1 - k) = [ch] by rw [drop_cons hkl, HC.out, show k + 1 - k = 1 by omega]; rfl] at hsl
        have HT2 : Hid (((L ++ [([ch], k)]) ++ (gf (tokL (n - (k + 1) + 1) ((kx s).drop (k + 1)) (k + 1))).1, (gf (tokL (n - (k + 1) + 1) ((kx s).drop (k + 1)) (k + 1))).2) = (GT, FT)) := by
         show _ = _;rw [← HT.out, tok_pn HKN.out hlt H1.out HQ.out H3.out, HC.out, Hpn.out, Bool.not_true, gf_good, List.append_assoc]; rfl
        clear CP i1 HT
        go_wp2_with (at_builtin; refine wpList_app rfl rfl T_xtoks rfl (ho1.alloc _) rfl (Sl.new _ _ _) rfl (by simp [Value.oneCell']) (by simp only [maxLen]; omega) (by omega) ?_; intro A8 c8 w8 ho8 hu8 hat8)
        have e8 : Own w8 120 2 A8 (L ++ [([ch], k)]).length c8 (xtcells (L ++ [([ch], k)])) := by
         rw [xtcells_snoc, List.length_append, Hm.out]; exact ho8
        have hU8 : Upd Non w w8 := (hu.alloc _).trans hu8 (fun i hi h => by have := hA i h; omega);have HO8 := Lib.hid e8
        have HA8 : Hid (∀ j, At A8 j → w.heap.size ≤ j) := fun j h => by
         rcases hat8 j h with h | h
         ·
          exact hA j h
         ·
          rw [h]; simp; omega
        clear ho8 e8 hu8 hat8 ho1
        go_wp2_with fail
        go_roundg (n + 1 - (k + 1))
        case measure => rw [Hg.out]; omega
        case rel => exact ⟨k + 1, A8, c8, L ++ [([ch], k)], rfl, by omega, by go_num, by rw [List.length_append, Hm.out]; rfl, HO8.out, HA8.out, HT2, by rw [List.length_append, Hm.out, List.length_singleton]; omega, hU8⟩
       | false =>
        obtain ⟨D, HD⟩ := nm (decide (32 < x) && decide (x < 127))
        go_upto_region 14 with fail
        go_cut [78] (fun s wx => s = .bool D ∧ wx = w2)
        case first =>
         clear H1 HQ HT hA ho1 hu H3
         by_cases hx1 : 32 < x
         ·
          have fx : decide ((32 : Int) < (x : Int)) = true := decide_eq_true (by omega);obtain ⟨z, fz⟩ : ∃ z, decide ((x : Int) < 127) = z := ⟨_, rfl⟩
          obtain rfl : D = z := by
           rw [← HD.out, ← fz];simp only [hx1, decide_true, Bool.true_and];rw [Bool.eq_iff_iff, decide_eq_true_eq, decide_eq_true_eq];omega
          clear hx1
          go_wp2_with fail
          go_meet
          case rel => exact ⟨rfl, rfl⟩
         ·
          have fx : decide ((32 : Int) < (x : Int)) = false := decide_eq_false (by omega)
          obtain rfl : D = false := by rw [← HD.out]; simp [hx1]
          go_wp2_with fail
          go_meet
          case rel => exact ⟨rfl, rfl⟩
        case rest =>
         obtain ⟨rfl, hwc⟩ := hcut;subst hwc
         cases D with
         | false =>
          have hd := HD.out
          have H3b : Hid ((isPn ((kx s).getD k 0) || decide (((kx s).getD k 0).toNat < 33) || decide (126 < ((kx s).getD k 0).toNat)) = true) := by
           show _ = _;rw [H3.out];simp only [Bool.and_eq_false_iff, decide_eq_false_iff_not] at hd;simp only [Bool.or_eq_true, decide_eq_true_eq, Bool.false_or];omega
          have hT := HT.out;rw [tok_pn HKN.out hlt H1.out HQ.out H3b.out, HC.out, Hpn.out, Bool.not_false, gf_bad, List.append_nil] at hT
          injection hT with hT1 hT2
          have HT1 := Lib.hid hT1;have HT2 := Lib.hid hT2;clear hT1 hT2 hd HT
          go_wp2_with fail
          go_ret2
          refine ⟨A, c, (k : Int), by rw [← HT1.out, Hm.out]; rfl, by rw [← HT1.out, Hm.out]; exact ho1, hA, by rw [← HT1.out, Hm.out]; omega, by rw [← HT2.out]; omega, by rw [← Hmv.out, ← HT2.out, if_pos hlt], hu⟩
         | true =>
          have hd := HD.out
          have H3b : Hid ((isPn ((kx s).getD k 0) || decide (((kx s).getD k 0).toNat < 33) || decide (126 < ((kx s).getD k 0).toNat)) = false) := by
           show _ = _;rw [H3.out];simp only [Bool.and_eq_true, decide_eq_true_eq] at hd;simp only [Bool.or_eq_false_iff, decide_eq_false_iff_not];exact ⟨⟨trivial, by omega⟩, by omega⟩
          clear hd CP i1
          go_wp2_with fail
          go_loopg [7] (n + 1 - k) (fun g p wr => ∃ j : Nat, Hid (g = n + 1 - j) ∧ k ≤ j ∧ j ≤ n ∧ p = .int .i64 j ∧ Hid (wlen ((kx s).drop k) = (j - k) + wlen ((kx s).drop j)) ∧ wr = wc)
          case atStart => exact ⟨k, rfl, Nat.le_refl _, hk, rfl, by show _ = _; omega, rfl⟩
          case round =>
           obtain ⟨j, Hj, hkj, hj, rfl, HL, hwr⟩ := hrel;subst hwr;obtain ⟨E, HE⟩ := nm (decide (j < n) && (wordCh ((kx s).getD j 0) && !isCm ((kx s).drop j)))
           go_upto_region 16 with fail
           go_cut [128] (fun s wx => s = .bool E ∧ wx = wr)
           case first =>
            clear ho1 hA HT H1 H3 H3b HQ hu HC Hx
            by_cases hlj : j < n
            ·
             have tj : decide ((j : Int) < (n : Int)) = true := decide_eq_true (by omega)
             have i2 := fun W => run_at_str Hn.out hlj W
             rw [isCm_drop, HKN.out] at HE;generalize (kx s).getD j 0 = cj at i2 HE;have CP2 := Lib.hid (xIsDelim_c cj wr);have HW : Hid (wordCh cj = (decide (33 ≤ cj.toNat ∧ cj.toNat ≤ 126) && !isPn cj)) := rfl;obtain ⟨pj, Hpj⟩ := nm (isPn cj);rw [Hpj.out] at CP2 HW;rw [HW.out] at HE;clear HW Hpj;generalize cj.toNat = y at i2 HE CP2
             by_cases hy1 : 32 < y
             ·
              have fy1 : decide ((32 : Int) < (y : Int)) = true := decide_eq_true (by omega)
              by_cases hy2 : y < 127
              ·
               have fy2 : decide ((y : Int) < 127) = true := decide_eq_true (by omega)
               cases pj with
               | true =>
                obtain rfl : E = false := by rw [← HE.out]; simp
                clear HE
                go_wp2_with fail
                refine CP2.out.mono ?_;rintro e w3 ⟨rfl, rfl⟩
                go_wp2_with fail
                go_meet
                case rel => exact ⟨rfl, rfl⟩
               | false =>
                have hy3 : decide (33 ≤ y ∧ y ≤ 126) = true := decide_eq_true (by omega);rw [decide_eq_true hlj, hy3] at HE
                by_cases hy4 : y = 47
                ·
                 have fy4 : ((y : Int) != 47) = false := by rw [hy4]; rfl
                 by_cases hj1 : j + 1 < n
                 ·
                  have fj : decide ((n : Int) ≤ (j : Int) + 1) = false := decide_eq_false (by omega)
                  have i3 := fun W => run_at_str Hn.out hj1 W
                  rw [show ((j + 1 : Nat) : Int) = (j : Int) + 1 by omega] at i3;generalize ((kx s).getD (j + 1) 0).toNat = b at i3 HE;obtain ⟨z, fz⟩ : ∃ z, ((b : Int) != 47) = z := ⟨_, rfl⟩
                  obtain rfl : E = z := by
                   rw [← HE.out, ← fz, hy4];simp only [hj1, true_and, Bool.true_and, Bool.not_false];rw [Bool.eq_iff_iff];simp only [Bool.not_eq_true', decide_eq_false_iff_not, bne_iff_ne, ne_eq];omega
                  clear HE hy4 hy3
                  go_wp2_with fail
                  refine CP2.out.mono ?_;rintro e w3 ⟨rfl, rfl⟩
                  go_wp2_with fail
                  go_meet
                  case rel => exact ⟨rfl, rfl⟩
                 ·
                  have fj : decide ((n : Int) ≤ (j : Int) + 1) = true := decide_eq_true (by omega)
                  obtain rfl : E = true := by rw [← HE.out]; simp [hj1]
                  clear HE hy4 hy3
                  go_wp2_with fail
                  refine CP2.out.mono ?_;rintro e w3 ⟨rfl, rfl⟩
                  go_wp2_with fail
                  go_meet
                  case rel => exact ⟨rfl, rfl⟩
                ·
                 have fy4 : ((y : Int) != 47) = true := by simp; omega
                 obtain rfl : E = true := by rw [← HE.out]; simp [hy4]
                 clear HE hy4 hy3
                 go_wp2_with fail
                 refine CP2.out.mono ?_;rintro e w3 ⟨rfl, rfl⟩
                 go_wp2_with fail
                 go_meet
                 case rel => exact ⟨rfl, rfl⟩
              ·
               have fy2 : decide ((y : Int) < 127) = false := decide_eq_false (by omega)
               obtain rfl : E = false := by rw [← HE.out, decide_eq_false (p := 33 ≤ y ∧ y ≤ 126) (by omega)]; simp
               clear HE
               go_wp2_with fail
               go_meet
               case rel => exact ⟨rfl, rfl⟩
             ·
              have fy1 : decide ((32 : Int) < (y : Int)) = false := decide_eq_false (by omega)
              obtain rfl : E = false := by rw [← HE.out, decide_eq_false (p := 33 ≤ y ∧ y ≤ 126) (by omega)]; simp
              clear HE
              go_wp2_with fail
              go_meet
              case rel => exact ⟨rfl, rfl⟩
            ·
             have tj : decide ((j : Int) < (n : Int)) = false := decide_eq_false (by omega)
             obtain rfl : E = false := by rw [← HE.out]; simp [hlj]
             clear HE
             go_wp2_with fail
             go_meet
             case rel => exact ⟨rfl, rfl⟩
           case rest =>
            obtain ⟨rfl, hwc⟩ := hcut;subst hwc
            cases E with
            | true =>
             have hd := HE.out;simp only [Bool.and_eq_true, decide_eq_true_eq] at hd
             have HL2 : Hid (wlen ((kx s).drop k) = (j + 1 - k) + wlen ((kx s).drop (j + 1))) := by
              show _ = _;rw [HL.out, wlen_step (by rw [HKN.out]; exact hd.1), if_pos (by simpa using hd.2)];omega
             have hj2 := hd.1;clear hd HE HL
             go_wp2_with fail
             go_roundg (n + 1 - (j + 1))
             case measure => rw [Hj.out]; omega
             case rel => exact ⟨j + 1, rfl, by omega, by omega, by go_num, HL2, rfl⟩
            | false =>
             have hcl : wlen ((kx s).drop k) = j - k := by
              rw [HL.out]
              by_cases hjn : j < n
              ·
               have hd := HE.out;rw [decide_eq_true hjn, Bool.true_and] at hd;rw [wlen_step (by rw [HKN.out]; exact hjn), hd];simp
              ·
               rw [show j = n by omega, wlen_end HKN.out]; rfl
             obtain ⟨hkj2, htk⟩ := tok_wd HKN.out hlt H1.out HQ.out H3b.out hkj hcl
             have hsl := fun W => run_sub_str Hn.out hkj hj W
             obtain ⟨wd, Hwd⟩ := nm (((kx s).drop k).take (j - k));rw [Hwd.out] at hsl htk
             have HT2 : Hid (((L ++ [(wd, k)]) ++ (gf (tokL (n - j + 1) ((kx s).drop j) j)).1, (gf (tokL (n - j + 1) ((kx s).drop j) j)).2) = (GT, FT)) := by
              show _ = _;rw [← HT.out, htk, gf_good, List.append_assoc]; rfl
             clear HE hcl htk HL
             go_wp2_with (at_builtin; refine wpList_app rfl rfl T_xtoks rfl (ho1.alloc _) rfl (Sl.new _ _ _) rfl (by simp [Value.oneCell']) (by simp only [maxLen]; omega) (by omega) ?_; intro A8 c8 w8 ho8 hu8 hat8)
             have e8 : Own w8 120 2 A8 (L ++ [(wd, k)]).length c8 (xtcells (L ++ [(wd, k)])) := by
              rw [xtcells_snoc, List.length_append, Hm.out]; exact ho8
             have hU8 : Upd Non w w8 := (hu.alloc _).trans hu8 (fun i hi h => by have := hA i h; omega);have HO8 := Lib.hid e8
             have HA8 : Hid (∀ j, At A8 j → w.heap.size ≤ j) := fun j h => by
              rcases hat8 j h with h | h
              ·
               exact hA j h
              ·
               rw [h]; simp; omega
             clear ho8 e8 hu8 hat8 ho1
             go_wp2_with fail
             go_roundg (n + 1 - j)
             case measure => rw [Hg.out]; omega
             case rel => exact ⟨j, A8, c8, L ++ [(wd, k)], rfl, hj, rfl, by rw [List.length_append, Hm.out]; rfl, HO8.out, HA8.out, HT2, by rw [List.length_append, Hm.out, List.length_singleton]; omega, hU8⟩
  ·
   obtain rfl : n = k := by omega
   have hT := HT.out;rw [tok_end HKN.out, gf_bad, List.append_nil] at hT
   injection hT with hT1 hT2
   have HT1 := Lib.hid hT1;have HT2 := Lib.hid hT2;obtain ⟨m, Hm⟩ := nm L.length
   have ho1 : Own W 120 2 A m c (xtcells L) := by rw [← Hm.out]; exact ho
   rw [Hm.out] at hLk ⊢;clear hT1 hT2 HT ho
   go_wp2_with fail
   go_ret2
   exact ⟨A, c, -1, by rw [← HT1.out, Hm.out]; rfl, by rw [← HT1.out, Hm.out]; exact ho1, hA, by rw [← HT1.out, Hm.out]; omega, by rw [← HT2.out]; omega, by rw [← Hmv.out, ← HT2.out, if_neg (by omega)], hu⟩
def TokV (w : World) (F : Nat → Prop) (A : Option Addr) (L : List Tok) : Prop :=
 L = [] ∨ ∃ b o, A = some ⟨b, o, none⟩ ∧ F b ∧ ∀ i (h : i < L.length), w.cell? ⟨b, o + i * 3, none⟩ = some (.string (kstr L[i].s)) ∧ w.cell? ⟨b, o + i * 3 + 1, none⟩ = some (.int .i64 L[i].pos) ∧ w.cell? ⟨b, o + i * 3 + 2, none⟩ = some (.bool L[i].bad)
section
variable {w w' : World} {F G S : Nat → Prop} {A : Option Addr} {L : List Tok}
theorem TokV.upd (h : TokV w F A L) (u : Upd S w w') (d : ∀ k, k < w.heap.size → F k → ¬ S k) : TokV w' F A L := by
 rcases h with h | ⟨b, o, e, hF, h⟩
 ·
  exact .inl h
 ·
  refine .inr ⟨b, o, e, hF, fun i hi => ?_⟩;obtain ⟨c0, c1, c2⟩ := h i hi;have hb := d b (World.block_lt_of_cell? _ _ c0) hF;exact ⟨cell_upd c0 u hb, cell_upd c1 u hb, cell_upd c2 u hb⟩
theorem TokV.at_ (h : TokV w F A L) {i : Nat} (hi : i < L.length) : ∃ b o, A = some ⟨b, o, none⟩ ∧ F b ∧ b < w.heap.size ∧ w.cell? ⟨b, o + i * 3, none⟩ = some (.string (kstr L[i].s)) ∧ w.cell? ⟨b, o + i * 3 + 1, none⟩ = some (.int .i64 L[i].pos) ∧ w.cell? ⟨b, o + i * 3 + 2, none⟩ = some (.bool L[i].bad) := by
 rcases h with h | ⟨b, o, e, hF, h⟩
 ·
  subst h; simp at hi
 ·
  exact ⟨b, o, e, hF, World.block_lt_of_cell? _ _ (h i hi).1, h i hi⟩
theorem TokV.mono (h : TokV w F A L) (hFG : ∀ k, k < w.heap.size → F k → G k) : TokV w G A L := by
 rcases h with h | ⟨b, o, e, hF, h⟩
 ·
  exact .inl h
 ·
  by_cases hn : L = []
  ·
   exact .inl hn
  ·
   exact .inr ⟨b, o, e, hFG b (World.block_lt_of_cell? _ _ (h 0 (List.length_pos_iff.2 hn)).1) hF, h⟩
end
theorem tcells_get : ∀ (L : List Tok) (i : Nat) (h : i < L.length), (tcells L)[i * 3]? = some (.string (kstr L[i].s)) ∧ (tcells L)[i * 3 + 1]? = some (.int .i64 L[i].pos) ∧ (tcells L)[i * 3 + 2]? = some (.bool L[i].bad)
 | t :: L, 0, _ => ⟨rfl, rfl, rfl⟩
 | t :: L, i + 1, h => by
  have := tcells_get L i (by simpa using h);rw [show (i + 1) * 3 = i * 3 + 1 + 1 + 1 by omega];exact this
theorem TokO.view {w : World} {A : Option Addr} {c : Nat} {L : List Tok} (h : TokO w A c L) : TokV w (At A) A L := by
 rcases Own.cases h with ⟨_, h0, _, _⟩ | ⟨g, cur, rfl, hb, _, _, _, ht⟩
 ·
  exact .inl (List.eq_nil_of_length_eq_zero h0)
 ·
  refine .inr ⟨g, 0, rfl, At.some_.2 rfl, fun i hi => ?_⟩
  have hcell : ∀ j u, (tcells L)[j]? = some u → w.cell? ⟨g, j, none⟩ = some u := by
   intro j u hj;rw [hb.cell];rw [← ht, List.getElem?_take] at hj
   split at hj
   ·
    simpa using hj
   ·
    cases hj
  obtain ⟨c0, c1, c2⟩ := tcells_get L i hi;rw [Nat.zero_add];exact ⟨hcell _ _ c0, hcell _ _ c1, hcell _ _ c2⟩
structure St where
 i : Nat
 why : Int
 ea : Int
 va : Option Addr
 vc : Nat
 vs : Bs
 ma : Option Addr
 mc : Nat
 ms : Bs
 left : Bool
def St.own (x : St) (p k : Nat) : Prop := k = p ∨ At x.va k ∨ At x.ma k
def rcells (A : Option Addr) (n c : Nat) (x : St) : Array Value := #[.slice A n c, .int .i64 x.i, .int .i64 x.why, .int .i64 x.ea, .slice x.va x.vs.length x.vc, .slice x.ma x.ms.length x.mc, .bool x.left]
structure RdS (w : World) (p : Nat) (A : Option Addr) (c : Nat) (L : List Tok) (x : St) : Prop where
 blk : Blk w p 59 (rcells A L.length c x)
 tok : TokV w (fun k => k < p) A L
 le : L.length ≤ c
 v : Own w 5 1 x.va x.vs.length x.vc (u8s x.vs)
 m : Own w 5 1 x.ma x.ms.length x.mc (u8s x.ms)
 vm : ∀ k, At x.va k → ¬ At x.ma k
 vlt : ∀ k, At x.va k → p < k
 mlt : ∀ k, At x.ma k → p < k
section
variable {w w' : World} {p : Nat} {A : Option Addr} {c : Nat} {L : List Tok} {x : St} {S : Nat → Prop}
theorem RdS.lt (h : RdS w p A c L x) {k : Nat} (hk : x.own p k) : k < w.heap.size := by
 rcases hk with rfl | hk | hk
 ·
  exact h.blk.lt
 ·
  exact h.v.lt hk
 ·
  exact h.m.lt hk
theorem RdS.upd (h : RdS w p A c L x) (u : Upd S w w') (d : ∀ k, k < w.heap.size → S k → p < k ∧ ¬ At x.va k ∧ ¬ At x.ma k) : RdS w' p A c L x :=
 ⟨h.blk.upd u (fun s => Nat.lt_irrefl _ (d p h.blk.lt s).1), h.tok.upd u (fun k hk hp s => Nat.lt_irrefl _ (Nat.lt_trans hp (d k hk s).1)), h.le, h.v.upd u (fun k hk s => (d k (h.v.lt hk) s).2.1 hk), h.m.upd u (fun k hk s => (d k (h.m.lt hk) s).2.2 hk), h.vm, h.vlt, h.mlt⟩
theorem RdS.non (h : RdS w p A c L x) (u : Upd Non w w') : RdS w' p A c L x := h.upd u (fun _ _ f => f.elim)
theorem RdS.vp (h : RdS w p A c L x) : ¬ At x.va p := h.v.ne_blk h.blk (by decide)
theorem RdS.mp (h : RdS w p A c L x) : ¬ At x.ma p := h.m.ne_blk h.blk (by decide)
theorem RdS.set (h : RdS w p A c L x) {y : St} (u : Upd (· = p) w w') (b : Blk w' p 59 (rcells A L.length c y)) (e1 : y.va = x.va) (e2 : y.vc = x.vc) (e3 : y.vs = x.vs) (e4 : y.ma = x.ma) (e5 : y.mc = x.mc) (e6 : y.ms = x.ms) : RdS w' p A c L y := by
 refine ⟨b, h.tok.upd u (fun k _ hk e => by omega), h.le, ?_, ?_, ?_, ?_, ?_⟩
 ·
  rw [e1, e2, e3]; exact h.v.upd u (fun k hk e => h.vp (e ▸ hk))
 ·
  rw [e4, e5, e6]; exact h.m.upd u (fun k hk e => h.mp (e ▸ hk))
 ·
  rw [e1, e4]; exact h.vm
 ·
  rw [e1]; exact h.vlt
 ·
  rw [e4]; exact h.mlt
theorem RdS.cells (h : RdS w p A c L x) : w.cell? ⟨p, 0, none⟩ = some (.slice A L.length c) ∧ w.cell? ⟨p, 1, none⟩ = some (.int .i64 x.i) ∧ w.cell? ⟨p, 2, none⟩ = some (.int .i64 x.why) ∧ w.cell? ⟨p, 3, none⟩ = some (.int .i64 x.ea) ∧ w.cell? ⟨p, 4, none⟩ = some (.slice x.va x.vs.length x.vc) ∧ w.cell? ⟨p, 5, none⟩ = some (.slice x.ma x.ms.length x.mc) ∧ w.cell? ⟨p, 6, none⟩ = some (.bool x.left) :=
 ⟨h.blk.cell 0, h.blk.cell 1, h.blk.cell 2, h.blk.cell 3, h.blk.cell 4, h.blk.cell 5, h.blk.cell 6⟩
end
end Go.Proofs.YtblkgjdhaibhgaaGreat
namespace Go.Proofs.YtblkgjdhaibhgaaGreat
open Go.RowKit
theorem rOk_c {w : World} {p : Nat} {A : Option Addr} {c : Nat} {L : List Tok} {x : St} (h : RdS w p A c L x) :
  Calls Tryz.prog 28 #[.pointer (some ⟨p, 0, none⟩)] w fun e w' => e = .returned (.bool (x.why == 0)) ∧ w' = w := by
 obtain ⟨c0, c1, c2, c3, c4, c5, c6⟩ := h.cells;obtain ⟨n, Hn⟩ := nm x.why;rw [Hn.out] at c2 ⊢;clear h;go_enter Tryz.func28, Tryz.ntmps28
 go_wp2_with fail
 go_ret;exact ⟨rfl, rfl⟩
def St.fail (x : St) (why ea : Int) : St := if x.why = 0 then { x with why := why, ea := ea } else x
theorem rFail_c {w : World} {p : Nat} {A : Option Addr} {c : Nat} {L : List Tok} {x : St} (h : RdS w p A c L x) (why ea : Int) :
  Calls Tryz.prog 30 #[.pointer (some ⟨p, 0, none⟩), .int .i64 why, .int .i64 ea] w fun e w' => e = .returned (.tuple #[]) ∧ RdS w' p A c L (x.fail why ea) ∧ Upd (· = p) w w' := by
 obtain ⟨c0, c1, c2, c3, c4, c5, c6⟩ := h.cells;have hf := h.blk.frozen;have H := Lib.hid h;obtain ⟨n, Hn⟩ := nm x.why;rw [Hn.out] at c2;clear h
 by_cases hz : n = 0
 ·
  have e : x.fail why ea = { x with why := why, ea := ea } := if_pos (by rw [Hn.out]; exact hz);subst hz;go_enter Tryz.func30, Tryz.ntmps30
  go_wp2_with fail
  go_end0
  refine ⟨rfl, ?_, (updCell _ _ _ _).trans (updCell _ _ _ _) (fun _ _ h => h)⟩;rw [e];refine H.out.set ((updCell _ _ _ _).trans (updCell _ _ _ _) (fun _ _ h => h)) ?_ rfl rfl rfl rfl rfl rfl;have := (H.out.blk.set_ 2 (.int .i64 why)).set_ 3 (.int .i64 ea)
  simpa [rcells] using this
 ·
  have e : x.fail why ea = x := if_neg (by rw [Hn.out]; exact hz)
  have fz : (n == 0) = false := by simpa using hz
  go_enter Tryz.func30, Tryz.ntmps30
  go_wp2_with fail
  go_end0
  exact ⟨rfl, by rw [e]; exact H.out, Upd.refl⟩
def posT (L : List Tok) (i : Nat) : Nat := match L[i]? with | some t => t.pos | none => 0
theorem posT_eq {L : List Tok} {i : Nat} (h : i < L.length) : posT L i = L[i].pos := by unfold posT; rw [List.getElem?_eq_getElem h]
theorem rSyntaxError_c {w : World} {p : Nat} {A : Option Addr} {c : Nat} {L : List Tok} {x : St} (h : RdS w p A c L x) (hi : x.i < L.length) :
  Calls Tryz.prog 93 #[.pointer (some ⟨p, 0, none⟩)] w fun e w' => e = .returned (.tuple #[]) ∧ RdS w' p A c L (x.fail 2 (posT L x.i)) ∧ Upd (· = p) w w' := by
 rw [posT_eq hi];obtain ⟨c0, c1, c2, c3, c4, c5, c6⟩ := h.cells;obtain ⟨b, o, rfl, hF, hb, t0, t1, t2⟩ := h.tok.at_ hi;have H := Lib.hid h;have hpn := h.blk.lt;obtain ⟨n, Hn⟩ := nm L.length;have hle := h.le;rw [Hn.out] at c0 hi hle;obtain ⟨i, Hi⟩ := nm x.i;rw [Hi.out] at c1 hi
 have t1' : w.cell? ⟨b, o + i * 3 + 1, none⟩ = some (.int .i64 L[x.i].pos) := by rw [← Hi.out]; exact t1
 generalize L[x.i].pos = z at *;clear h t0 t1 t2 c2 c3 c4 c5 c6;go_enter Tryz.func93, Tryz.ntmps93
 go_wp2_with fail
 obtain ⟨wD, HwD⟩ := nm w.drew
 have uD : Upd Non w wD := by rw [← HwD.out]; exact Upd.refl.drew
 have C := Lib.hid (rFail_c (H.out.non uD) 2 z)
 refine wp_region_held_drew (S := fun w' => w'.cell? ⟨p, 0, none⟩ = some (.slice (some ⟨b, o, none⟩) n c) ∧ w'.cell? ⟨p, 1, none⟩ = some (.int .i64 i) ∧ w'.cell? ⟨b, o + i * 3 + 1, none⟩ = some (.int .i64 z)) (by kernel_rfl) (by rw [HwD.out]; exact ⟨cell_upd c0 uD (fun f => f), cell_upd c1 uD (fun f => f), cell_upd t1' uD (fun f => f)⟩) (fun hHeld => ?_)
 rw [HwD.out] at hHeld ⊢;refine wpT 0 ?_
 try simp only [put_y, put_z]
 refine wpT 1 ?_
 try simp only [put_y, put_z]
 refine wpT 2 ?_
 try simp only [put_y, put_z]
 refine wpT 3 ?_
 try simp only [put_y, put_z]
 refine wpT 4 ?_
 try simp only [put_y, put_z]
 refine wpT 5 ?_
 try simp only [put_y, put_z]
 refine wpT 6 ?_
 try simp only [put_y, put_z]
 refine wpT 7 ?_
 try simp only [put_y, put_z]
 refine wpT 8 ?_
 try simp only [put_y, put_z]
 refine wpT 9 ?_
 try simp only [put_y, put_z]
 refine wpT 10 ?_
 try simp only [put_y, put_z]
 refine wpT 11 ?_
 try simp only [put_y, put_z]
 refine wpAnyH_ready (rs := [12]) (by kernel_rfl) (by simp) ?_;refine AllReadyH.cons rfl (fun K hK => ?_) AllReadyH.nil;go_simp;refine C.out.mono ?_;rintro e w2 ⟨rfl, hr, hu⟩
 go_wp2_with fail
 have hb2 : b ≠ p := by omega
 have d := hr.cells
 have e1 : (x.fail 2 z).i = i := by rw [← Hi.out]; unfold St.fail; split <;> rfl
 refine hK.out _ _ ?_ (fun hHeld => ?_)
 ·
  exact ⟨by rw [← Hn.out]; exact d.1, by rw [← e1]; exact d.2.1, cell_upd (cell_upd t1' uD (fun f => f)) hu hb2⟩
 clear hK K
 try simp only [put_y, put_z]
 refine wpAnyH_done (by kernel_rfl) ?_ _
 go_wp2_with fail
 go_end0
 exact ⟨rfl, hr, (uD.mono (T := (· = p)) (fun _ _ f => f.elim)).trans hu (fun _ _ h => h)⟩
def isT (L : List Tok) (i : Nat) (s : Bs) : Bool := match L[i]? with | some t => !t.bad && decide (t.s = s) | none => false
theorem isT_eq {L : List Tok} {i : Nat} (h : i < L.length) (s : Bs) : isT L i s = (!L[i].bad && decide (L[i].s = s)) := by unfold isT; rw [List.getElem?_eq_getElem h]
theorem rIs_c {w : World} {p : Nat} {A : Option Addr} {c : Nat} {L : List Tok} {x : St} (h : RdS w p A c L x) (hi : x.i < L.length) (s : Bs) :
  Calls Tryz.prog 61 #[.pointer (some ⟨p, 0, none⟩), .string (kstr s)] w fun e w' => e = .returned (.bool (x.why == 0 && isT L x.i s)) ∧ Upd Non w w' := by
 rw [isT_eq hi];obtain ⟨c0, c1, c2, c3, c4, c5, c6⟩ := h.cells;obtain ⟨b, o, rfl, hF, hb, t0, t1, t2⟩ := h.tok.at_ hi;have H := Lib.hid h;have hle := h.le;obtain ⟨n, Hn⟩ := nm L.length;rw [Hn.out] at c0 hi hle;obtain ⟨i, Hi⟩ := nm x.i;rw [Hi.out] at c1 hi
 have t0' : w.cell? ⟨b, o + i * 3, none⟩ = some (.string (kstr L[x.i].s)) := by rw [← Hi.out]; exact t0
 have t2' : w.cell? ⟨b, o + i * 3 + 2, none⟩ = some (.bool L[x.i].bad) := by rw [← Hi.out]; exact t2
 generalize L[x.i] = t at *;obtain ⟨R, HR⟩ := nm (x.why == 0 && (!t.bad && decide (t.s = s)));rw [HR.out];obtain ⟨z, Hz⟩ := nm (x.why == 0);obtain ⟨bd, Hbd⟩ := nm t.bad;rw [Hbd.out] at t2' HR;rw [Hz.out] at HR;obtain ⟨D, HD⟩ := nm (decide (t.s = s))
 have hD : ((kstr t.s).toList == (kstr s).toList) = D := by rw [str_beq, HD.out]
 rw [HD.out] at HR;obtain ⟨q, Hq⟩ := nm (kstr t.s);rw [Hq.out] at t0' hD
 have CO : Hid (∀ w', Upd Non w w' → Calls Tryz.prog 28 #[.pointer (some ⟨p, 0, none⟩)] w' fun e w2 => e = .returned (.bool z) ∧ w2 = w') := fun w' u => by
  rw [← Hz.out]; exact rOk_c (H.out.non u)
 clear h t0 t1 t2 c2 c3 c4 c5 c6;go_enter Tryz.func61, Tryz.ntmps61
 go_wp2_with fail
 obtain ⟨wD, HwD⟩ := nm w.drew
 have uD : Upd Non w wD := by rw [← HwD.out]; exact Upd.refl.drew
 refine wp_region_held_drew (S := fun w' => Upd Non w w' ∧ w'.cell? ⟨p, 0, none⟩ = some (.slice (some ⟨b, o, none⟩) n c) ∧ w'.cell? ⟨p, 1, none⟩ = some (.int .i64 i) ∧ w'.cell? ⟨b, o + i * 3, none⟩ = some (.string q) ∧ w'.cell? ⟨b, o + i * 3 + 2, none⟩ = some (.bool bd)) (by kernel_rfl) (by rw [HwD.out]; exact ⟨uD, cell_upd c0 uD (fun f => f), cell_upd c1 uD (fun f => f), cell_upd t0' uD (fun f => f), cell_upd t2' uD (fun f => f)⟩) (fun hHeld => ?_)
 rw [HwD.out] at hHeld ⊢;refine wpT 0 ?_
 try simp only [put_y, put_z]
 refine wpAnyH_takeC (i := 1) (v := ?v1) rfl (by kernel_rfl) (by kernel_rfl) (by kernel_rfl) (fun _ _ _ h => h) ⟨by rfl, ?f1, ?a1, ?r1, ?c1⟩ (by assumption) ?m1
 case r1 => intro w; go_simp; constructor <;> with_reducible rfl
 case c1 => intro W hSw; refine (CO.out _ hSw.1).mono ?_; rintro e w' ⟨rfl, rfl⟩; constructor <;> with_reducible rfl
 try simp only [put_y, put_z]
 cases z with
 | false =>
  obtain rfl : R = false := by rw [← HR.out]; rfl
  refine wpT 2 ?_
  try simp only [put_y, put_z]
  refine wpU 3 ?_
  try simp only [put_y, put_z]
  refine wpU 4 ?_
  try simp only [put_y, put_z]
  refine wpU 5 ?_
  try simp only [put_y, put_z]
  refine wpU 6 ?_
  try simp only [put_y, put_z]
  refine wpU 7 ?_
  try simp only [put_y, put_z]
  refine wpU 8 ?_
  try simp only [put_y, put_z]
  refine wpU 9 ?_
  try simp only [put_y, put_z]
  refine wpU 10 ?_
  try simp only [put_y, put_z]
  refine wpU 11 ?_
  try simp only [put_y, put_z]
  refine wpU 12 ?_
  try simp only [put_y, put_z]
  refine wpU 13 ?_
  try simp only [put_y, put_z]
  refine wpU 14 ?_
  try simp only [put_y, put_z]
  refine wpT 15 ?_
  try simp only [put_y, put_z]
  refine wpT 16 ?_
  try simp only [put_y, put_z]
  refine wpU 17 ?_
  try simp only [put_y, put_z]
  refine wpU 18 ?_
  try simp only [put_y, put_z]
  refine wpU 19 ?_
  try simp only [put_y, put_z]
  refine wpU 20 ?_
  try simp only [put_y, put_z]
  refine wpU 21 ?_
  try simp only [put_y, put_z]
  refine wpU 22 ?_
  try simp only [put_y, put_z]
  refine wpU 23 ?_
  try simp only [put_y, put_z]
  refine wpU 24 ?_
  try simp only [put_y, put_z]
  refine wpU 25 ?_
  try simp only [put_y, put_z]
  refine wpU 26 ?_
  try simp only [put_y, put_z]
  refine wpU 27 ?_
  try simp only [put_y, put_z]
  refine wpU 28 ?_
  try simp only [put_y, put_z]
  refine wpU 29 ?_
  try simp only [put_y, put_z]
  refine wpT 30 ?_
  try simp only [put_y, put_z]
  refine wpT 31 ?_
  try simp only [put_y, put_z]
  refine wpAnyH_done (by kernel_rfl) ?_ _
  go_wp2_with fail
  go_ret;exact ⟨rfl, uD⟩
 | true =>
  cases bd with
  | true =>
   obtain rfl : R = false := by rw [← HR.out]; rfl
   refine wpT 2 ?_
   try simp only [put_y, put_z]
   refine wpT 3 ?_
   try simp only [put_y, put_z]
   refine wpT 4 ?_
   try simp only [put_y, put_z]
   refine wpT 5 ?_
   try simp only [put_y, put_z]
   refine wpT 6 ?_
   try simp only [put_y, put_z]
   refine wpT 7 ?_
   try simp only [put_y, put_z]
   refine wpT 8 ?_
   try simp only [put_y, put_z]
   refine wpT 9 ?_
   try simp only [put_y, put_z]
   refine wpT 10 ?_
   try simp only [put_y, put_z]
   refine wpT 11 ?_
   try simp only [put_y, put_z]
   refine wpT 12 ?_
   try simp only [put_y, put_z]
   refine wpT 13 ?_
   try simp only [put_y, put_z]
   refine wpT 14 ?_
   try simp only [put_y, put_z]
   refine wpT 15 ?_
   try simp only [put_y, put_z]
   refine wpT 16 ?_
   try simp only [put_y, put_z]
   refine wpU 17 ?_
   try simp only [put_y, put_z]
   refine wpU 18 ?_
   try simp only [put_y, put_z]
   refine wpU 19 ?_
   try simp only [put_y, put_z]
   refine wpU 20 ?_
   try simp only [put_y, put_z]
   refine wpU 21 ?_
   try simp only [put_y, put_z]
   refine wpU 22 ?_
   try simp only [put_y, put_z]
   refine wpU 23 ?_
   try simp only [put_y, put_z]
   refine wpU 24 ?_
   try simp only [put_y, put_z]
   refine wpU 25 ?_
   try simp only [put_y, put_z]
   refine wpU 26 ?_
   try simp only [put_y, put_z]
   refine wpU 27 ?_
   try simp only [put_y, put_z]
   refine wpU 28 ?_
   try simp only [put_y, put_z]
   refine wpU 29 ?_
   try simp only [put_y, put_z]
   refine wpT 30 ?_
   try simp only [put_y, put_z]
   refine wpT 31 ?_
   try simp only [put_y, put_z]
   refine wpAnyH_done (by kernel_rfl) ?_ _
   go_wp2_with fail
   go_ret;exact ⟨rfl, uD⟩
  | false =>
   obtain rfl : R = D := by rw [← HR.out]; rfl
   refine wpT 2 ?_
   try simp only [put_y, put_z]
   refine wpT 3 ?_
   try simp only [put_y, put_z]
   refine wpT 4 ?_
   try simp only [put_y, put_z]
   refine wpT 5 ?_
   try simp only [put_y, put_z]
   refine wpT 6 ?_
   try simp only [put_y, put_z]
   refine wpT 7 ?_
   try simp only [put_y, put_z]
   refine wpT 8 ?_
   try simp only [put_y, put_z]
   refine wpT 9 ?_
   try simp only [put_y, put_z]
   refine wpT 10 ?_
   try simp only [put_y, put_z]
   refine wpT 11 ?_
   try simp only [put_y, put_z]
   refine wpT 12 ?_
   try simp only [put_y, put_z]
   refine wpT 13 ?_
   try simp only [put_y, put_z]
   refine wpT 14 ?_
   try simp only [put_y, put_z]
   refine wpT 15 ?_
   try simp only [put_y, put_z]
   refine wpT 16 ?_
   try simp only [put_y, put_z]
   refine wpT 17 ?_
   try simp only [put_y, put_z]
   refine wpT 18 ?_
   try simp only [put_y, put_z]
   refine wpT 19 ?_
   try simp only [put_y, put_z]
   refine wpT 20 ?_
   try simp only [put_y, put_z]
   refine wpT 21 ?_
   try simp only [put_y, put_z]
   refine wpT 22 ?_
   try simp only [put_y, put_z]
   refine wpT 23 ?_
   try simp only [put_y, put_z]
   refine wpT 24 ?_
   try simp only [put_y, put_z]
   refine wpT 25 ?_
   try simp only [put_y, put_z]
   refine wpT 26 ?_
   try simp only [put_y, put_z]
   refine wpT 27 ?_
   try simp only [put_y, put_z]
   refine wpT 28 ?_
   try simp only [put_y, put_z]
   refine wpT 29 ?_
   try simp only [put_y, put_z]
   refine wpT 30 ?_
   try simp only [put_y, put_z]
   refine wpT 31 ?_
   try simp only [put_y, put_z]
   refine wpAnyH_done (by kernel_rfl) ?_ _
   go_wp2_with fail
   go_ret;exact ⟨rfl, uD⟩
end Go.Proofs.YtblkgjdhaibhgaaGreat
