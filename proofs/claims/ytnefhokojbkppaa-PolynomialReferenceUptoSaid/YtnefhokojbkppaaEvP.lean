/-
  The value of a sum of monomials, in plain terms: it is the value of the pattern, modulo 2^64. No condition of its own.
  What PolynomialSound leans on, in plain terms. No condition of its own.
-/
import Derived.Test.YtnefhokojbkppaaEvC
import Derived.Test.YtnefhokojbkppaaTermC
import Derived.Test.YtnefhokojbkppaaPLaw
import Derived.Test.YtnefhokojbkppaaRVal3
namespace Go.Proofs.Ytnefhokojbkppaa
open Go.RowKit

/-- The value of a sum. -/
def evP (ins : List Int) (l : PL) : Int := lsum (l.map fun t => t.2 * monV ins (exps t.1))
def deg (k : Mon) : Nat := (k.map UInt8.toNat).sum
theorem nodup_ex : ∀ (l : List Mon), ∃ K : List Mon, K.Nodup ∧ ∀ x ∈ l, x ∈ K
  | [] => ⟨[], by simp, by simp⟩
  | x :: l => by
    obtain ⟨K, h1, h2⟩ := nodup_ex l
    by_cases h : x ∈ K
    · exact ⟨K, h1, fun y hy => by rcases List.mem_cons.1 hy with rfl | hy; exact h; exact h2 y hy⟩
    · exact ⟨x :: K, List.nodup_cons.2 ⟨h, h1⟩, fun y hy => by rcases List.mem_cons.1 hy with rfl | hy; simp; simp [h2 y hy]⟩
theorem lsum_one {f : Mon → Int} : ∀ {K : List Mon} {x : Mon}, K.Nodup → x ∈ K → lsum (K.map fun y => if x = y then f y else 0) = f x
  | [], _, _, h => by simp at h
  | y :: K, x, hn, h => by
    have h2 := List.nodup_cons.1 hn
    rw [List.map_cons, lsum]
    by_cases e : x = y
    · subst e
      rw [if_pos rfl, lsum_zero _ _ fun t ht => if_neg fun q => h2.1 (by rw [q]; exact ht)]
      omega
    · rw [if_neg e, lsum_one h2.2 (by simpa [e] using h)]; omega
theorem evP_keys (ins : List Int) (l : PL) (K : List Mon) (hK : K.Nodup) (h : ∀ t ∈ l, t.1 ∈ K) : evP ins l = lsum (K.map fun x => coef l x * monV ins (exps x)) := by
  have : ∀ x, coef l x * monV ins (exps x) = lsum (l.map fun t => if t.1 = x then t.2 * monV ins (exps x) else 0) := fun x => by
    unfold coef
    rw [Int.mul_comm, ← lsum_mul]
    refine lsum_congr fun t _ => ?_
    split
    · rw [Int.mul_comm]
    · simp
  rw [lsum_congr (fun x _ => this x), lsum_swap]
  unfold evP
  exact lsum_congr fun t ht => (lsum_one (f := fun y => t.2 * monV ins (exps y)) hK (h t ht)).symm
theorem evP_eqv (ins : List Int) {a b : PL} (h : Eqv a b) : evP ins a % 18446744073709551616 = evP ins b % 18446744073709551616 := by
  obtain ⟨K, hK, h2⟩ := nodup_ex (a.map (·.1) ++ b.map (·.1))
  rw [evP_keys ins a K hK (fun t ht => h2 _ (List.mem_append_left _ (List.mem_map.2 ⟨t, ht, rfl⟩))), evP_keys ins b K hK (fun t ht => h2 _ (List.mem_append_right _ (List.mem_map.2 ⟨t, ht, rfl⟩)))]
  refine lsum_mod fun x _ => ?_
  rw [Int.mul_emod, h x, ← Int.mul_emod]
theorem evP_append (ins : List Int) (a b : PL) : evP ins (a ++ b) = evP ins a + evP ins b := by simp only [evP, List.map_append, lsum_append]
theorem evP_scale (ins : List Int) (c : Int) (l : PL) : evP ins (scale c l) = c * evP ins l := by
  unfold evP scale
  rw [← lsum_mul, List.map_map]
  exact lsum_congr fun t _ => by simp only [Function.comp]; rw [Int.mul_assoc]
theorem deg_cons (x : UInt8) (k : Mon) : deg (x :: k) = x.toNat + deg k := by simp [deg]
theorem monV_madd : ∀ (ins : List Int) (j k : Mon), j.length = k.length → deg j + deg k < 256 → monV ins (exps (madd j k)) = monV ins (exps j) * monV ins (exps k)
  | [], _, _, _, _ => by simp [monV]
  | _ :: _, [], [], _, _ => by simp [monV, madd, exps]
  | _ :: _, [], _ :: _, h, _ => by simp at h
  | _ :: _, _ :: _, [], h, _ => by simp at h
  | x :: ins, a :: j, b :: k, h, hd => by
    rw [deg_cons, deg_cons] at hd
    have ih := monV_madd ins j k (by simpa using h) (by omega)
    have hab : (a + b).toNat = a.toNat + b.toNat := by rw [UInt8.toNat_add, Nat.mod_eq_of_lt (by omega)]
    unfold madd exps at ih ⊢
    simp only [List.zipWith_cons_cons, List.map_cons, monV, hab, ih, Int.toNat_natCast]
    rw [Int.pow_add]
    simp only [Int.mul_assoc, Int.mul_left_comm]
theorem deg_madd : ∀ (j k : Mon), deg (madd j k) ≤ deg j + deg k
  | [], _ => by simp [madd, deg]
  | _ :: _, [] => by simp [madd, deg]
  | a :: j, b :: k => by
    have ih := deg_madd j k
    have hab : (a + b).toNat ≤ a.toNat + b.toNat := by rw [UInt8.toNat_add]; exact Nat.mod_le _ _
    unfold madd at ih ⊢
    rw [List.zipWith_cons_cons, deg_cons, deg_cons, deg_cons]
    omega
def Dg (d : Nat) (l : PL) : Prop := ∀ t ∈ l, deg t.1 ≤ d
theorem evP_pairs (ins : List Int) {n d e : Nat} (b : PL) (hb : Wd n b) (hdb : Dg e b) (hde : d + e < 256) : ∀ (a : PL), Wd n a → Dg d a → evP ins (pairs a b) = evP ins a * evP ins b
  | [], _, _ => by simp [pairs, evP, lsum]
  | s :: a, ha, hda => by
    have ih := evP_pairs ins b hb hdb hde a (fun t ht => ha t (by simp [ht])) (fun t ht => hda t (by simp [ht]))
    have h1 : evP ins (shiftP s.1 s.2 b) = s.2 * monV ins (exps s.1) * evP ins b := by
      unfold evP shiftP
      rw [← lsum_mul, List.map_map]
      refine lsum_congr fun t ht => ?_
      simp only [Function.comp]
      rw [monV_madd _ _ _ (by rw [ha s (by simp), hb t ht]) (by have := hda s (by simp); have := hdb t ht; omega)]
      simp only [Int.mul_assoc, Int.mul_left_comm]
    have h2 : pairs (s :: a) b = shiftP s.1 s.2 b ++ pairs a b := by simp [pairs]
    have h3 : evP ins (s :: a) = s.2 * monV ins (exps s.1) + evP ins a := rfl
    rw [h2, evP_append, h1, ih, h3, Int.add_mul]
theorem monV_zero (n : Nat) : ∀ ins : List Int, monV ins (exps (zeroM n)) = 1 := by
  induction n with
  | zero => intro ins; cases ins <;> rfl
  | succ n ih =>
    intro ins
    cases ins with
    | nil => rfl
    | cons x ins =>
      have := ih ins
      unfold exps zeroM at this ⊢
      rw [List.replicate_succ, List.map_cons, monV, this]
      simp
theorem monV_unit : ∀ (n k : Nat) (ins : List Int), k < n → ins.length = n → monV ins (exps (unitM n k)) = ins.getD k 0
  | 0, k, _, h, _ => by omega
  | n + 1, k, [], _, h2 => by simp at h2
  | n + 1, 0, x :: ins, _, _ => by
    have := monV_zero n ins
    unfold exps zeroM at this
    unfold exps unitM
    rw [List.replicate_succ, List.set_cons_zero, List.map_cons, monV, this]
    simp [Int.pow_succ]
  | n + 1, k + 1, x :: ins, h, h2 => by
    have := monV_unit n k ins (by omega) (by simpa using h2)
    unfold exps unitM at this ⊢
    rw [List.replicate_succ, List.set_cons_succ, List.map_cons, monV, this]
    simp
theorem deg_zero (n : Nat) : deg (zeroM n) = 0 := by
  induction n with
  | zero => rfl
  | succ n ih => unfold zeroM at *; rw [List.replicate_succ, deg_cons, ih]; rfl
theorem deg_unit : ∀ (n k : Nat), deg (unitM n k) ≤ 1
  | 0, _ => by simp [unitM, deg]
  | n + 1, 0 => by
    have := deg_zero n
    unfold zeroM at this
    unfold unitM
    rw [List.replicate_succ, List.set_cons_zero, deg_cons, this]
    decide
  | n + 1, k + 1 => by
    have := deg_unit n k
    unfold unitM at this ⊢
    rw [List.replicate_succ, List.set_cons_succ, deg_cons]
    simpa using this
theorem Dg.scale {d : Nat} {l : PL} (h : Dg d l) (c : Int) : Dg d (Go.Proofs.Ytnefhokojbkppaa.scale c l) := fun t ht => by
  obtain ⟨s, hs, rfl⟩ := List.mem_map.1 ht
  exact h s hs
theorem Dg.mono {d e : Nat} {l : PL} (h : Dg d l) (he : d ≤ e) : Dg e l := fun t ht => Nat.le_trans (h t ht) he
theorem Dg.append {d : Nat} {a b : PL} (h : Dg d a) (g : Dg d b) : Dg d (a ++ b) := fun t ht => (List.mem_append.1 ht).elim (h t) (g t)
theorem Dg.pairs {d e : Nat} {a b : PL} (h : Dg d a) (g : Dg e b) : Dg (d + e) (pairs a b) := fun t ht => by
  obtain ⟨s, hs, ht⟩ := List.mem_flatMap.1 ht
  obtain ⟨u, hu, rfl⟩ := List.mem_map.1 ht
  have := deg_madd s.1 u.1
  have := h s hs
  have := g u hu
  simp only []
  omega
theorem not_bits (a : Int) : bits .xor .i64 (-1) a = wrap64 (-a - 1) := by
  show IntKind.i64.wrap ((BitVec.ofInt 64 (-1) ^^^ BitVec.ofInt 64 a).toNat : Int) = _
  have h1 : BitVec.ofInt 64 (-1) = BitVec.allOnes 64 := by decide
  rw [h1, BitVec.allOnes_xor, BitVec.toNat_not, BitVec.toNat_ofInt, IntKind.wrap_i64]
  unfold wrap64
  omega
theorem I64_wrap (x : Int) : I64 (wrap64 x) := by unfold I64 wrap64; omega
theorem wrap64_mod (x : Int) : wrap64 x % 18446744073709551616 = x % 18446744073709551616 := by unfold wrap64; omega
/-- The terms of a pattern have its value. -/
theorem ev_tm {n : Nat} {q : Pt} (h : PolyPt n q) (ins : List Int) (hi : ins.length = n) (hI : ∀ x ∈ ins, I64 x) : ∀ l, tm n q = some l → q.size < 256 → Dg q.size l ∧ ∃ v, evF ins q = some v ∧ I64 v ∧ v % 18446744073709551616 = evP ins l % 18446744073709551616 := by
  induction h with
  | var v h1 h2 =>
    intro l hl hs
    rw [tm_eq, if_pos (show 0 < (Pt.mk v 0 0 0 []).v by show 0 < v; omega)] at hl
    injection hl with hl; subst hl
    have hvi : (v - 1).toNat < ins.length := by omega
    refine ⟨fun t ht => ?_, ins.getD (v - 1).toNat 0, ?_, ?_, ?_⟩
    · simp only [List.mem_singleton] at ht
      subst ht
      rw [Pt.size_leaf]; exact deg_unit _ _
    · rw [evF_eq, if_pos (show 0 < (Pt.mk v 0 0 0 []).v by show 0 < v; omega)]; rfl
    · rw [getD_of hvi]; exact hI _ (List.getElem_mem hvi)
    · have := monV_unit n (v - 1).toNat ins (by omega) hi
      show _ = (1 * monV ins (exps (unitM n (v - 1).toNat)) + 0) % _
      rw [this]; congr 1; omega
  | const i hI2 =>
    intro l hl hs
    rw [tm_const] at hl
    injection hl with hl; subst hl
    refine ⟨fun t ht => ?_, i, rfl, hI2, ?_⟩
    · simp only [List.mem_singleton] at ht
      subst ht
      rw [deg_zero]; omega
    · have := monV_zero n ins
      show _ = (i * monV ins (exps (zeroM n)) + 0) % _
      rw [this]; congr 1; omega
  | shl a i _ ha ih =>
    intro l hl hs
    rw [Pt.size_two, Pt.size_leaf] at hs
    obtain ⟨la, hla⟩ := ha.wf
    rw [tm_shl hla] at hl
    injection hl with hl; subst hl
    obtain ⟨hd, v, hv, _, hm⟩ := ih la hla (by omega)
    refine ⟨(hd.scale _).mono (by rw [Pt.size_two]; omega), wrap64 (v * 2 ^ shF i), ?_, I64_wrap _, ?_⟩
    · rw [evF_eq]; simp only [Pt.v, Pt.op, Pt.kids, Pt.imm, Pt.iv, List.map_cons, List.map_nil, allS, hv]; rfl
    · rw [wrap64_mod, evP_scale, Int.mul_emod, hm, ← Int.mul_emod, Int.mul_comm]
  | un op a ho ha ih =>
    intro l hl hs
    rw [Pt.size_one] at hs
    obtain ⟨la, hla⟩ := ha.wf
    obtain ⟨hd, v, hv, _, hm⟩ := ih la hla (by omega)
    rcases ho with rfl | rfl
    · rw [tm_neg hla] at hl
      injection hl with hl; subst hl
      refine ⟨(hd.scale _).mono (by rw [Pt.size_one]; omega), wrap64 (-v), ?_, I64_wrap _, ?_⟩
      · rw [evF_eq]; simp only [Pt.v, Pt.op, Pt.kids, Pt.imm, Pt.iv, List.map_cons, List.map_nil, allS, hv]; rfl
      · rw [wrap64_mod, evP_scale]; omega
    · rw [tm_not hla] at hl
      injection hl with hl; subst hl
      refine ⟨fun t ht => ?_, wrap64 (-v - 1), ?_, I64_wrap _, ?_⟩
      · rcases List.mem_cons.1 ht with rfl | ht
        · rw [deg_zero]; omega
        · exact (hd.scale _).mono (by rw [Pt.size_one]; omega) t ht
      · rw [evF_eq]; simp only [Pt.v, Pt.op, Pt.kids, Pt.imm, Pt.iv, List.map_cons, List.map_nil, allS, hv]; show some (bits .xor .i64 (-1) v) = _; rw [not_bits]
      · have h0 := monV_zero n ins
        show _ = (-1 * monV ins (exps (zeroM n)) + evP ins (scale (-1) la)) % _
        rw [h0, wrap64_mod, evP_scale]; omega
  | bin op a b ho ha hb iha ihb =>
    intro l hl hs
    rw [Pt.size_two] at hs
    obtain ⟨la, hla⟩ := ha.wf
    obtain ⟨lb, hlb⟩ := hb.wf
    obtain ⟨hda, v, hv, _, hm⟩ := iha la hla (by omega)
    obtain ⟨hdb, u, hu, _, hk⟩ := ihb lb hlb (by omega)
    rcases ho with rfl | rfl | rfl
    · rw [tm_add hla hlb] at hl
      injection hl with hl; subst hl
      refine ⟨(hda.mono (by rw [Pt.size_two]; omega)).append (hdb.mono (by rw [Pt.size_two]; omega)), wrap64 (v + u), ?_, I64_wrap _, ?_⟩
      · rw [evF_eq]; simp only [Pt.v, Pt.op, Pt.kids, Pt.imm, Pt.iv, List.map_cons, List.map_nil, allS, hv, hu]; rfl
      · rw [wrap64_mod, evP_append]; omega
    · rw [tm_sub hla hlb] at hl
      injection hl with hl; subst hl
      refine ⟨(hda.mono (by rw [Pt.size_two]; omega)).append ((hdb.scale _).mono (by rw [Pt.size_two]; omega)), wrap64 (v - u), ?_, I64_wrap _, ?_⟩
      · rw [evF_eq]; simp only [Pt.v, Pt.op, Pt.kids, Pt.imm, Pt.iv, List.map_cons, List.map_nil, allS, hv, hu]; rfl
      · rw [wrap64_mod, evP_append, evP_scale]; omega
    · rw [tm_mul hla hlb] at hl
      injection hl with hl; subst hl
      refine ⟨(hda.pairs hdb).mono (by rw [Pt.size_two]; omega), wrap64 (v * u), ?_, I64_wrap _, ?_⟩
      · rw [evF_eq]; simp only [Pt.v, Pt.op, Pt.kids, Pt.imm, Pt.iv, List.map_cons, List.map_nil, allS, hv, hu]; rfl
      · rw [wrap64_mod, evP_pairs ins lb (tm_wd n _ _ hlb) hdb (by omega) la (tm_wd n _ _ hla) hda, Int.mul_emod, hm, hk, ← Int.mul_emod]
end Go.Proofs.Ytnefhokojbkppaa

namespace Go.Proofs.Ytnefhokojbkppaa
open Go.RowKit

def evM (ins : List Int) (L : List Mn) : Int := lsum (L.map fun t => t.2 * monV ins t.1)
theorem evM_mns (ins : List Int) (r : PL) : evM ins (mns r) = evP ins r := by
  unfold evM evP mns
  rw [List.map_map]
  rfl
theorem evM_snoc (ins : List Int) (L : List Mn) (m : Mn) : evM ins (L ++ [m]) = evM ins L + m.2 * monV ins m.1 := by
  unfold evM
  rw [List.map_append, lsum_append]
  simp [lsum]
theorem exps_inj : ∀ {a b : Mon}, exps a = exps b → a = b
  | [], [], _ => rfl
  | [], _ :: _, h => by simp [exps] at h
  | _ :: _, [], h => by simp [exps] at h
  | x :: a, y :: b, h => by
    unfold exps at h
    simp only [List.map_cons, List.cons.injEq] at h
    have h1 : x.toNat = y.toNat := by omega
    rw [UInt8.toNat_inj.1 h1, exps_inj (a := a) (b := b) h.2]
theorem le_deg {x : UInt8} : ∀ {k : Mon}, x ∈ k → x.toNat ≤ deg k
  | y :: k, h => by
    rw [deg_cons]
    rcases List.mem_cons.1 h with rfl | h
    · omega
    · have := le_deg h; omega
theorem valid_norm {q : Pt} (h : validF q 3 0 = true) : normF q 3 = tm 3 q := by unfold normF; rw [if_pos h]; rfl
theorem valid_size {q : Pt} (h : validF q 3 0 = true) : q.size ≤ 24 := by
  unfold validF at h
  simp only [Bool.and_eq_true, decide_eq_true_eq] at h
  exact h.1.2.2.2.2
theorem valid_wf {q : Pt} (h : validF q 3 0 = true) : WfP 3 q := by
  unfold validF at h
  simp only [Bool.and_eq_true] at h
  have := wf_of_vPt q _ _ _ h.2
  rwa [List.length_replicate] at this
theorem norm_some {q : Pt} (hq : PolyPt 3 q) : (normF q 3).isSome = validF q 3 0 := by
  cases h : validF q 3 0 with
  | true =>
    obtain ⟨l, hl⟩ := PolyPt.wf (n := 3) hq
    rw [valid_norm h, hl]; rfl
  | false => unfold normF; rw [h]; rfl
/-- What holds of a normal form. -/
theorem snd_facts {q : Pt} (hq : PolyPt 3 q) (hv : validF q 3 0 = true) {r : PL} (z : NzIs 3 (normF q 3) r) (ins : List Int) (hi : ins.length = 3) (hI : ∀ x ∈ ins, I64 x) :
    (∀ t ∈ mns r, t.1.length = 3 ∧ 0 < t.2 ∧ t.2 < 18446744073709551616 ∧ ∀ e ∈ t.1, 0 ≤ e ∧ e ≤ 100) ∧ (∀ i k (h : i < (mns r).length) (g : k < (mns r).length), k < i → (mns r)[i].1 ≠ (mns r)[k].1) ∧
      ∃ v, evF ins q = some v ∧ I64 v ∧ v % 18446744073709551616 = evM ins (mns r) % 18446744073709551616 := by
  obtain ⟨l, hl⟩ := PolyPt.wf (n := 3) hq
  obtain ⟨_, _, h1, _⟩ := z
  obtain ⟨hnf, he⟩ := h1 l (by rw [valid_norm hv, hl])
  have hs := valid_size hv
  obtain ⟨hd, v, hv1, hv2, hv3⟩ := ev_tm (n := 3) hq ins hi hI l hl (by omega)
  refine ⟨fun t ht => ?_, fun i k h g hki => ?_, v, hv1, hv2, ?_⟩
  · obtain ⟨s, hs2, rfl⟩ := List.mem_map.1 ht
    have ho := hnf.ok s hs2
    obtain ⟨u, hu, hue⟩ := hnf.mem he s hs2
    have hdu := hd u hu
    rw [hue] at hdu
    refine ⟨by simp only [exps, List.length_map]; exact ho.1, ho.2.1, ho.2.2, fun e hee => ?_⟩
    obtain ⟨x, hx, rfl⟩ := List.mem_map.1 hee
    have := le_deg hx
    omega
  · have h' : i < r.length := by rw [← mns_len r]; exact h
    have g' : k < r.length := by rw [← mns_len r]; exact g
    have hp := List.pairwise_iff_getElem.1 hnf.srt k i g' h' hki
    intro e
    simp only [mns, List.getElem_map] at e
    rw [exps_inj e] at hp
    exact List.lt_irrefl _ hp
  · rw [hv3, evM_mns, evP_eqv ins he]
theorem i64_eq {x y : Int} (hx : I64 x) (hy : I64 y) (h : x % 18446744073709551616 = y % 18446744073709551616) : x = y := by unfold I64 at *; omega
end Go.Proofs.Ytnefhokojbkppaa
