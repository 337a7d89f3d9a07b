/-
  The reference's sums in terms of polynomials: sorted sums without zeros, equal to the terms modulo 2^64. No condition of its own.
-/
import Derived.Test.YtnefhokojbkppaaRPrd
import Derived.Test.YtnefhokojbkppaaPNz
namespace Go.Proofs.Ytnefhokojbkppaa
open Go.RowKit

theorem lessF_exps : ∀ {a b : Mon}, a.length = b.length → lessF (exps a) (exps b) = decide (a < b)
  | [], [], _ => by simp [exps, lessF]
  | x :: a, y :: b, h => by
    have ih := lessF_exps (a := a) (b := b) (by simpa using h)
    unfold exps at ih ⊢
    simp only [List.map_cons, lessF, ih]
    by_cases e : x = y
    · subst e
      rw [if_pos rfl]
      congr 1
      simp
    · have e1 : ¬((x.toNat : Int) = (y.toNat : Int)) := fun q => e (UInt8.toNat_inj.1 (by omega))
      rw [if_neg e1]
      congr 1
      simp only [List.cons_lt_cons_iff, e, false_and, or_false, UInt8.lt_iff_toNat_lt, eq_iff_iff]
      omega
  | [], _ :: _, h => by simp at h
  | _ :: _, [], h => by simp at h
def addP : PL → Mon × Int → PL
  | [], t => if t.2 = 0 then [] else [t]
  | a :: l, t => if a.1 < t.1 then a :: addP l t
    else if t.1 < a.1 then (if t.2 = 0 then a :: l else t :: a :: l)
    else (if (a.2 + t.2) % 18446744073709551616 = 0 then l else (t.1, (a.2 + t.2) % 18446744073709551616) :: l)
theorem mns_cons (a : Mon × Int) (l : PL) : mns (a :: l) = (exps a.1, a.2) :: mns l := rfl
theorem addT_mns {n : Nat} {x : Mon} {c : Int} (ht : x.length = n) : ∀ {l : PL}, Wd n l → addT (mns l) (exps x, c) = mns (addP l (x, c))
  | [], _ => by
    unfold addP addT mns
    simp only [List.map_nil]
    split <;> rfl
  | a :: l, hw => by
    have ih := addT_mns ht (l := l) (fun y hy => hw y (by simp [hy])) (c := c)
    have ha := hw a (by simp)
    unfold addP
    rw [mns_cons, addT]
    simp only [lessF_exps (ha.trans ht.symm), lessF_exps (ht.trans ha.symm), decide_eq_true_eq, ih]
    split
    · rfl
    · split
      · split <;> rfl
      · split <;> rfl
theorem mon_tri {a b : Mon} (h1 : ¬a < b) (h2 : ¬b < a) : a = b := List.le_antisymm h2 h1
theorem addP_key {t : Mon × Int} : ∀ {l : PL}, ∀ s ∈ addP l t, s.1 = t.1 ∨ ∃ u ∈ l, u.1 = s.1
  | [], s, h => by
    unfold addP at h
    split at h
    · simp at h
    · simp at h; subst h; exact .inl rfl
  | a :: l, s, h => by
    unfold addP at h
    split at h
    · rcases List.mem_cons.1 h with rfl | h
      · exact .inr ⟨s, by simp, rfl⟩
      · rcases addP_key s h with q | ⟨u, hu, q⟩
        · exact .inl q
        · exact .inr ⟨u, by simp [hu], q⟩
    · split at h
      · split at h
        · exact .inr ⟨s, h, rfl⟩
        · rcases List.mem_cons.1 h with rfl | h
          · exact .inl rfl
          · exact .inr ⟨s, h, rfl⟩
      · split at h
        · exact .inr ⟨s, by simp [h], rfl⟩
        · rcases List.mem_cons.1 h with rfl | h
          · exact .inl rfl
          · exact .inr ⟨s, by simp [h], rfl⟩
theorem NF.cons {n : Nat} {a : Mon × Int} {l : PL} (h : NF n (a :: l)) : NF n l ∧ (∀ t ∈ l, a.1 < t.1) ∧ a.1.length = n ∧ 0 < a.2 ∧ a.2 < 18446744073709551616 :=
  ⟨⟨(List.pairwise_cons.1 h.srt).2, fun x hx => h.ok x (by simp [hx])⟩, (List.pairwise_cons.1 h.srt).1, h.ok a (by simp)⟩
theorem NF.mk_ {n : Nat} {a : Mon × Int} {l : PL} (h : NF n l) (h1 : ∀ t ∈ l, a.1 < t.1) (h2 : a.1.length = n ∧ 0 < a.2 ∧ a.2 < 18446744073709551616) : NF n (a :: l) :=
  ⟨List.pairwise_cons.2 ⟨h1, h.srt⟩, fun x hx => by rcases List.mem_cons.1 hx with rfl | hx; exact h2; exact h.ok x hx⟩
theorem NF.nil {n : Nat} : NF n [] := ⟨List.Pairwise.nil, fun x hx => by simp at hx⟩
theorem NF.wd {n : Nat} {l : PL} (h : NF n l) : Wd n l := fun t ht => (h.ok t ht).1
theorem NF.addP {n : Nat} {x : Mon} {c : Int} (hx : x.length = n) (h0 : 0 ≤ c) (h1 : c < 18446744073709551616) : ∀ {l : PL}, NF n l → NF n (addP l (x, c)) ∧ Eqv (addP l (x, c)) (l ++ [(x, c)])
  | [], _ => by
    unfold Go.Proofs.Ytnefhokojbkppaa.addP
    split
    · rename_i q
      have q : c = 0 := q
      subst q
      exact ⟨NF.nil, fun y => by simp [coef_one, coef_nil]⟩
    · rename_i q
      have q : c ≠ 0 := q
      exact ⟨NF.nil.mk_ (by simp) ⟨hx, by show 0 < c; omega, h1⟩, Eqv.refl⟩
  | a :: l, h => by
    obtain ⟨hl, hlt, ha1, ha2, ha3⟩ := h.cons
    obtain ⟨i1, i2⟩ := NF.addP hx h0 h1 hl
    unfold Go.Proofs.Ytnefhokojbkppaa.addP
    split
    · rename_i q
      have q : a.1 < x := q
      refine ⟨i1.mk_ (fun t ht => ?_) ⟨ha1, ha2, ha3⟩, fun y => ?_⟩
      · rcases addP_key t ht with e | ⟨u, hu, e⟩
        · rw [e]; exact q
        · rw [← e]; exact hlt u hu
      · have := i2 y
        rw [List.cons_append, coef_cons, coef_cons, Int.add_emod, this, ← Int.add_emod]
    · rename_i q
      have q : ¬a.1 < x := q
      split
      · rename_i q2
        have q2 : x < a.1 := q2
        split
        · rename_i q3
          have q3 : c = 0 := q3
          subst q3
          exact ⟨h, fun y => by rw [coef_append, coef_one]; simp⟩
        · rename_i q3
          have q3 : c ≠ 0 := q3
          refine ⟨h.mk_ (fun t ht => ?_) ⟨hx, by show 0 < c; omega, h1⟩, (Eqv.comm [(x, c)] (a :: l))⟩
          rcases List.mem_cons.1 ht with rfl | ht
          · exact q2
          · exact List.lt_trans q2 (hlt t ht)
      · rename_i q2
        have e : a.1 = x := mon_tri q q2
        split
        · rename_i q3
          have q3 : (a.2 + c) % 18446744073709551616 = 0 := q3
          refine ⟨hl, fun y => ?_⟩
          rw [coef_append, coef_cons, coef_one, e]
          split <;> omega
        · rename_i q3
          have q3 : (a.2 + c) % 18446744073709551616 ≠ 0 := q3
          refine ⟨hl.mk_ (fun t ht => by show x < t.1; rw [← e]; exact hlt t ht) ⟨hx, by show 0 < (a.2 + c) % 18446744073709551616; omega, by show (a.2 + c) % 18446744073709551616 < _; omega⟩, fun y => ?_⟩
          rw [coef_append, coef_cons, coef_cons, coef_one, e]
          dsimp only
          split <;> omega
theorem u64m_range (x : Int) : 0 ≤ u64m x ∧ u64m x < 18446744073709551616 := by unfold u64m; omega
theorem Eqv.one_u64 (x : Mon) (c : Int) : Eqv [(x, u64m c)] [(x, c)] := fun y => by
  rw [coef_one, coef_one]
  split
  · unfold u64m; omega
  · rfl
theorem addMul_mns {n : Nat} (t : Int) : ∀ {b a : PL}, NF n a → NF n b → ∃ r, addMul (mns a) (mns b) t = mns r ∧ NF n r ∧ Eqv r (a ++ scale t b)
  | [], a, h, _ => ⟨a, rfl, h, by simp only [scale, List.map_nil, List.append_nil]; exact Eqv.refl⟩
  | m :: b, a, h, hb => by
    obtain ⟨hb1, _, hm1, _, _⟩ := hb.cons
    have hu := u64m_range (m.2 * t)
    obtain ⟨i1, i2⟩ := NF.addP hm1 hu.1 hu.2 h
    obtain ⟨r, h1, h2, h3⟩ := addMul_mns t (b := b) (a := addP a (m.1, u64m (m.2 * t))) i1 hb1
    refine ⟨r, ?_, h2, h3.trans ?_⟩
    · rw [mns_cons]
      show addMul (addT (mns a) (exps m.1, u64m (m.2 * t))) (mns b) t = _
      rw [addT_mns hm1 h.wd, h1]
    · have e : scale t (m :: b) = [(m.1, t * m.2)] ++ scale t b := rfl
      rw [e, ← List.append_assoc]
      refine Eqv.append (i2.trans (Eqv.append Eqv.refl ?_)) Eqv.refl
      rw [Int.mul_comm t m.2]
      exact Eqv.one_u64 _ _
/-- Exponents below 128. -/
def Ent (B : Nat) (x : Mon) : Prop := ∀ e ∈ x, e.toNat ≤ B
theorem exps_madd : ∀ {a b : Mon}, Ent 127 a → Ent 127 b → exps (madd a b) = zadd (exps a) (exps b)
  | [], _, _, _ => by simp [exps, madd, zadd]
  | _ :: _, [], _, _ => by simp [exps, madd, zadd]
  | x :: a, y :: b, ha, hb => by
    have ih := exps_madd (a := a) (b := b) (fun e he => ha e (by simp [he])) (fun e he => hb e (by simp [he]))
    have h1 := ha x (by simp)
    have h2 := hb y (by simp)
    unfold exps madd zadd at ih ⊢
    simp only [List.zipWith_cons_cons, List.map_cons, ih, UInt8.toNat_add]
    congr 1
    omega
theorem mulRow_mns {n : Nat} {x : Mon} {c : Int} (hx : x.length = n) (hxe : Ent 127 x) : ∀ {b o : PL}, NF n o → NF n b → (∀ t ∈ b, Ent 127 t.1) → ∃ r, mulRow (mns o) (exps x, c) (mns b) = mns r ∧ NF n r ∧ Eqv r (o ++ shiftP x c b)
  | [], o, h, _, _ => ⟨o, rfl, h, by simp only [shiftP, List.map_nil, List.append_nil]; exact Eqv.refl⟩
  | m :: b, o, h, hb, he => by
    obtain ⟨hb1, _, hm1, _, _⟩ := hb.cons
    have hu := u64m_range (c * m.2)
    have hl := madd_len hx hm1
    obtain ⟨i1, i2⟩ := NF.addP hl hu.1 hu.2 h
    obtain ⟨r, h1, h2, h3⟩ := mulRow_mns (c := c) hx hxe (b := b) (o := addP o (madd x m.1, u64m (c * m.2))) i1 hb1 (fun t ht => he t (by simp [ht]))
    refine ⟨r, ?_, h2, h3.trans ?_⟩
    · rw [mns_cons]
      show mulRow (addT (mns o) (zadd (exps x) (exps m.1), u64m (c * m.2))) (exps x, c) (mns b) = _
      rw [← exps_madd hxe (he m (by simp)), addT_mns hl h.wd, h1]
    · have e : shiftP x c (m :: b) = [(madd x m.1, c * m.2)] ++ shiftP x c b := rfl
      rw [e, ← List.append_assoc]
      exact Eqv.append (i2.trans (Eqv.append Eqv.refl (Eqv.one_u64 _ _))) Eqv.refl
theorem prodT_mns_ {n : Nat} {b : PL} (hb : NF n b) (he : ∀ t ∈ b, Ent 127 t.1) : ∀ {a o : PL}, NF n a → (∀ t ∈ a, Ent 127 t.1) → NF n o → ∃ r, (mns a).foldl (fun out s => mulRow out s (mns b)) (mns o) = mns r ∧ NF n r ∧ Eqv r (o ++ pairs a b)
  | [], o, _, _, h => ⟨o, rfl, h, by simp only [pairs, List.flatMap_nil, List.append_nil]; exact Eqv.refl⟩
  | m :: a, o, ha, hae, h => by
    obtain ⟨ha1, _, hm1, _, _⟩ := ha.cons
    obtain ⟨r1, g1, g2, g3⟩ := mulRow_mns (c := m.2) hm1 (hae m (by simp)) h hb he
    obtain ⟨r, h1, h2, h3⟩ := prodT_mns_ hb he (a := a) (o := r1) ha1 (fun t ht => hae t (by simp [ht])) g2
    refine ⟨r, ?_, h2, h3.trans ?_⟩
    · rw [mns_cons, List.foldl_cons, g1, h1]
    · have e : pairs (m :: a) b = shiftP m.1 m.2 b ++ pairs a b := by simp [pairs]
      rw [e, ← List.append_assoc]
      exact Eqv.append g3 Eqv.refl
theorem prodT_mns {n : Nat} {a b : PL} (ha : NF n a) (hb : NF n b) (hae : ∀ t ∈ a, Ent 127 t.1) (hbe : ∀ t ∈ b, Ent 127 t.1) : ∃ r, prodT (mns a) (mns b) = mns r ∧ NF n r ∧ Eqv r (pairs a b) := by
  obtain ⟨r, h1, h2, h3⟩ := prodT_mns_ hb hbe (a := a) (o := []) ha hae NF.nil
  exact ⟨r, h1, h2, h3⟩
theorem const_mns (n : Nat) {v : Int} (h0 : 0 ≤ v) (h1 : v < 18446744073709551616) : ∃ r, addT [] (List.replicate n 0, v) = mns r ∧ NF n r ∧ Eqv r [(zeroM n, v)] := by
  have hz : (zeroM n).length = n := WdZ n
  obtain ⟨i1, i2⟩ := NF.addP hz h0 h1 NF.nil
  refine ⟨_, ?_, i1, i2⟩
  rw [← addT_mns hz (Wd.nil n)]
  simp [mns, exps, zeroM]
theorem NF.len {n : Nat} {r l : PL} (h : NF n r) (e : Eqv r l) : r.length ≤ l.length := by
  have hnd : (r.map (·.1)).Nodup := List.pairwise_map.2 (h.srt.imp fun q e => by rw [e] at q; exact List.lt_irrefl _ q)
  have := nodup_len hnd (l := l.map (·.1)) (fun x hx => by
    obtain ⟨t, ht, rfl⟩ := List.mem_map.1 hx
    obtain ⟨s, hs, e2⟩ := h.mem e t ht
    exact List.mem_map.2 ⟨s, hs, e2⟩)
  simpa using this
/-- The exponents of a pattern's terms are at most its size. -/
def EntL (B : Nat) (l : PL) : Prop := ∀ t ∈ l, Ent B t.1
theorem Ent.mono {B C : Nat} {x : Mon} (h : Ent B x) (hb : B ≤ C) : Ent C x := fun e he => Nat.le_trans (h e he) hb
theorem EntL.mono {B C : Nat} {l : PL} (h : EntL B l) (hb : B ≤ C) : EntL C l := fun t ht => (h t ht).mono hb
theorem EntL.scale {B : Nat} {l : PL} (h : EntL B l) (c : Int) : EntL B (scale c l) := fun t ht => by
  obtain ⟨s, hs, rfl⟩ := List.mem_map.1 ht
  exact h s hs
theorem EntL.append {B : Nat} {l m : PL} (h : EntL B l) (g : EntL B m) : EntL B (l ++ m) := fun t ht => (List.mem_append.1 ht).elim (h t) (g t)
theorem Ent.madd {B C : Nat} : ∀ {x y : Mon}, Ent B x → Ent C y → Ent (B + C) (madd x y)
  | [], _, _, _ => fun e he => by simp [Go.Proofs.Ytnefhokojbkppaa.madd] at he
  | _ :: _, [], _, _ => fun e he => by simp [Go.Proofs.Ytnefhokojbkppaa.madd] at he
  | x :: a, y :: b, hx, hy => fun e he => by
    have ih := Ent.madd (x := a) (y := b) (fun e he => hx e (by simp [he])) (fun e he => hy e (by simp [he]))
    unfold Go.Proofs.Ytnefhokojbkppaa.madd at he ih
    rw [List.zipWith_cons_cons] at he
    rcases List.mem_cons.1 he with rfl | he
    · have h1 := hx x (by simp)
      have h2 := hy y (by simp)
      rw [UInt8.toNat_add]
      omega
    · exact ih e he
theorem EntL.pairs {B C : Nat} {l m : PL} (h : EntL B l) (g : EntL C m) : EntL (B + C) (pairs l m) := fun t ht => by
  obtain ⟨s, hs, ht⟩ := List.mem_flatMap.1 ht
  obtain ⟨u, hu, rfl⟩ := List.mem_map.1 ht
  exact (h s hs).madd (g u hu)
theorem Ent.zero (B n : Nat) : Ent B (zeroM n) := fun e he => by
  rw [(List.mem_replicate.1 he).2]; simp
theorem EntL.getD {B : Nat} {r : List PL} (h : ∀ x ∈ r, EntL B x) (i : Nat) : EntL B (r.getD i []) := by
  by_cases hi : i < r.length
  · rw [getD_of hi]; exact h _ (List.getElem_mem hi)
  · rw [List.getD, List.getElem?_eq_none (by omega)]; intro t ht; simp at ht
theorem two_ent {kids : List Pt} {r : List PL} {n : Nat} (h : kids.map (tm n) = r.map some) (hb : ∀ k ∈ kids, ∀ l, tm n k = some l → EntL k.size l) :
    ∃ x y, EntL x (r.getD 0 []) ∧ EntL y (r.getD 1 []) ∧ x + y ≤ Pt.sizeL kids := by
  have he : EntL 0 [] := fun t ht => by simp at ht
  cases kids with
  | nil =>
    have : r = [] := by simpa using h.symm
    subst this
    exact ⟨0, 0, he, he, by simp⟩
  | cons k kids =>
    cases r with
    | nil => simp at h
    | cons l r =>
      simp only [List.map_cons, List.cons.injEq] at h
      cases kids with
      | nil =>
        have : r = [] := by simpa using h.2.symm
        subst this
        exact ⟨k.size, 0, hb k (by simp) l h.1, he, by simp [Pt.sizeL]⟩
      | cons k2 ks =>
        cases r with
        | nil => simp at h
        | cons l2 ls =>
          simp only [List.map_cons, List.cons.injEq] at h
          exact ⟨k.size, k2.size, hb k (by simp) l h.1, hb k2 (by simp) l2 h.2.1, by simp only [Pt.sizeL]; omega⟩
theorem tm_ent (n : Nat) (p : Pt) : ∀ l, tm n p = some l → EntL p.size l := by
  induction p using Pt.ind with
  | h p ih =>
    intro l h
    rw [tm_eq] at h
    have hs := Pt.size_eq p
    split at h
    · injection h with h; subst h
      intro t ht e he
      simp at ht; subst ht
      unfold unitM at he
      rcases List.mem_or_eq_of_mem_set he with q | q
      · rw [(List.mem_replicate.1 q).2]; simp
      · subst q; simp; omega
    · split at h
      · injection h with h; subst h
        intro t ht
        simp at ht; subst ht
        exact Ent.zero _ _
      · split at h
        · split at h
          · cases h
          · rename_i l0 h0
            split at h
            · injection h with h; subst h
              have : some l0 ∈ p.kids.map (tm n) := by
                rw [← h0]
                by_cases q : 0 < (p.kids.map (tm n)).length
                · rw [getD_of q]; exact List.getElem_mem q
                · rw [List.getD, List.getElem?_eq_none (by omega)] at h0; cases h0
              obtain ⟨k, hk, hk2⟩ := List.mem_map.1 this
              exact ((ih k hk l0 hk2).mono (by have := Pt.kids_lt hk; omega)).scale _
            · cases h
        · split at h
          · cases h
          · rename_i r hr
            obtain ⟨x, y, hx, hy, hxy⟩ := two_ent (allSome_len hr) ih
            unfold combine at h
            split at h
            · injection h with h; subst h; exact (hx.mono (by omega)).append (hy.mono (by omega))
            · split at h
              · injection h with h; subst h; exact (hx.mono (by omega)).append ((hy.mono (by omega)).scale _)
              · split at h
                · injection h with h; subst h; exact (hx.pairs hy).mono (by omega)
                · split at h
                  · injection h with h; subst h; exact (hx.mono (by omega)).scale _
                  · split at h
                    · injection h with h; subst h
                      intro t ht
                      rcases List.mem_cons.1 ht with rfl | ht
                      · exact Ent.zero _ _
                      · exact (hx.mono (by omega)).scale _ t ht
                    · cases h
end Go.Proofs.Ytnefhokojbkppaa
