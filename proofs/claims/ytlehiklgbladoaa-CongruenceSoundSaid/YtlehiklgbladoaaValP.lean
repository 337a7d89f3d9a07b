/-
  The values of value nodes, in plain Lean; nodes that are equivalent because two parameters are the same have the same value.
-/
import Derived.Test.YtlehiklgbladoaaBin
import Derived.Test.YtlehiklgbladoaaDepC
namespace Go.Proofs.Ytlehiklgbladoaa

def kidN (nd : Nd) (t : Nat) : Nat := (nd.kids.getD t 0).toNat
def vStep (v : Nat → Int) (a : Int) (nd : Nd) : Int :=
  if nd.op = 1 then nd.imm
  else if nd.op = 2 then a
  else if 4 ≤ nd.op ∧ nd.op ≤ 19 then binF nd.op (v (kidN nd 0)) (v (kidN nd 1))
  else if nd.op = 20 ∨ nd.op = 21 then unF nd.op (v (kidN nd 0))
  else if nd.op = 22 then (if v (kidN nd 0) = 0 then v (kidN nd 2) else v (kidN nd 1))
  else 0
def vals (L : List Nd) (a : Int) : Nat → Nat → Int
  | 0 => fun _ => 0
  | k + 1 => fun j => if j = k then vStep (vals L a k) a (L.getD k ⟨0, 0, []⟩) else vals L a k j
def val (L : List Nd) (a : Int) (j : Nat) : Int := vals L a (j + 1) j
theorem vals_lt (L : List Nd) (a : Int) {j : Nat} : ∀ k, j < k → vals L a k j = val L a j
  | 0, h => by omega
  | k + 1, h => by
    by_cases e : j = k
    · subst e; rfl
    · show (if j = k then _ else vals L a k j) = _
      rw [if_neg e]; exact vals_lt L a k (by omega)
theorem kidN_lt {L : List Nd} (hv : VL L) {j : Nat} (hj : j < L.length) {t : Nat} (ht : t < L[j].kids.length) : kidN L[j] t < j ∧ (L.getD (kidN L[j] t) ⟨0, 0, []⟩).op ≠ 26 := by
  have hm := List.getElem_mem ht
  unfold kidN
  rw [getD_of ht]
  rcases hv j hj with ⟨_, _, h⟩ | ⟨_, h⟩
  · omega
  · obtain ⟨a, b, c⟩ := h _ hm
    exact ⟨by omega, c⟩
theorem vStep_congr {v v' : Nat → Int} {L : List Nd} {j : Nat} {a : Int} {nd nd' : Nd} (h : VN L j nd) (ho : nd.op = nd'.op) (hi : nd.imm = nd'.imm) (hk : ∀ t, t < nd.kids.length → v (kidN nd t) = v' (kidN nd' t)) : vStep v a nd = vStep v' a nd' := by
  obtain ⟨h1, _⟩ := h
  unfold vStep
  rw [← ho, ← hi]
  rcases h1 with ⟨e, h3⟩ | ⟨e, _, h3⟩ | ⟨e, e', _, h3⟩ | ⟨e, _, h3⟩ | ⟨e, _, h3⟩
  · rw [if_pos e, if_pos e]
  · rw [if_neg (by omega), if_pos e, if_neg (by omega), if_pos e]
  · rw [if_neg (by omega), if_neg (by omega), if_pos ⟨e, e'⟩, if_neg (by omega), if_neg (by omega), if_pos ⟨e, e'⟩, hk 0 (by omega), hk 1 (by omega)]
  · rw [if_neg (by omega), if_neg (by omega), if_neg (by omega), if_pos e, if_neg (by omega), if_neg (by omega), if_neg (by omega), if_pos e, hk 0 (by omega)]
  · rw [hk 0 (by omega), hk 1 (by omega), hk 2 (by omega)]
theorem VL.vn {L : List Nd} (hv : VL L) {j : Nat} (hj : j < L.length) (ho : L[j].op ≠ 26) : VN L j L[j] := (hv j hj).resolve_left (fun h => ho h.1)
theorem val_eq {L : List Nd} (hv : VL L) (a : Int) {j : Nat} (hj : j < L.length) (ho : L[j].op ≠ 26) : val L a j = vStep (val L a) a L[j] := by
  show (if j = j then vStep (vals L a j) a (L.getD j ⟨0, 0, []⟩) else _) = _
  rw [if_pos rfl, getD_of hj]
  exact vStep_congr (hv.vn hj ho) rfl rfl (fun t ht => vals_lt L a j (kidN_lt hv hj ht).1)

def encI (x : Int) : Nat := if 0 ≤ x then 2 * x.toNat else 2 * (-x).toNat + 1
theorem encI_inj {x y : Int} (h : encI x = encI y) : x = y := by unfold encI at h; split at h <;> split at h <;> omega
def valD (L : List Nd) (a : Int) (i : Nat) : Nat := if (L.getD i ⟨0, 0, []⟩).op = 26 then 0 else 1 + encI (val L a i)

theorem valD_resp {L : List Nd} (hv : VL L) (a : Int) (h0 : ∃ r, L = baseN ++ r) : Resp L [((0 : Int), (1 : Int))] (valD L a) := by
  have hb : (L.getD 0 ⟨0, 0, []⟩ = ⟨2, 0, []⟩ ∧ L.getD 1 ⟨0, 0, []⟩ = ⟨2, 1, []⟩) ∧ 3 ≤ L.length := by
    obtain ⟨r, rfl⟩ := h0; simp [baseN]
  obtain ⟨⟨g0, g1⟩, hl⟩ := hb
  refine ⟨fun p hp _ _ => ?_, fun i j hi hj hc => ?_⟩
  · simp only [List.mem_singleton] at hp
    subst hp
    show valD L a 0 = valD L a 1
    unfold valD
    rw [g0, g1]
    have e0 : L[0] = ⟨2, 0, []⟩ := by rw [getD_of (by omega)] at g0; exact g0
    have e1 : L[1] = ⟨2, 1, []⟩ := by rw [getD_of (by omega)] at g1; exact g1
    have v0 := val_eq hv a (j := 0) (by omega) (by rw [e0]; simp)
    have v1 := val_eq hv a (j := 1) (by omega) (by rw [e1]; simp)
    rw [v0, v1, e0, e1]
    simp [vStep]
  · obtain ⟨ho, hm, k1, k2, hk⟩ := hc
    unfold valD
    rw [getD_of hi, getD_of hj, ho]
    by_cases e : L[j].op = 26
    · rw [if_pos e, if_pos e]
    · rw [if_neg e, if_neg e]
      have hle : L[i].kids.length = L[j].kids.length := by simpa [kidCs] using congrArg List.length hk
      rw [val_eq hv a hi (by rw [ho]; exact e), val_eq hv a hj e]
      rw [vStep_congr (v := val L a) (v' := val L a) (nd := L[i]) (nd' := L[j]) (hv.vn hi (by rw [ho]; exact e)) ho hm (fun t ht => ?_)]
      have ht' : t < L[j].kids.length := by omega
      have q1 := kidN_lt hv hi ht
      have q2 := kidN_lt hv hj ht'
      have e1 : valD L a (kidN L[i] t) = valD L a (kidN L[j] t) := by
        have := List.getElem_of_eq hk (i := t) (by simpa [kidCs] using ht)
        simp only [kidCs, List.getElem_map] at this
        unfold kidN
        rwa [getD_of ht, getD_of ht']
      unfold valD at e1
      rw [if_neg q1.2, if_neg q2.2] at e1
      exact encI_inj (by omega)

theorem sound_plain {L : List Nd} (hv : VL L) (a : Int) (h0 : ∃ r, L = baseN ++ r) {c : Nat → Nat} (hc : IsCl L [((0 : Int), (1 : Int))] c) {i : Nat} (hi : i < L.length) :
    ∃ h : c i < L.length, ((L[i].op = 26) ↔ (L[c i].op = 26)) ∧ (L[i].op ≠ 26 → val L a i = val L a (c i)) := by
  have hci := hc.named.lt hi
  have := hc.snd (valD L a) (valD_resp hv a h0) i (c i) hi hci (hc.named.idem i hi).symm
  unfold valD at this
  rw [getD_of hi, getD_of hci] at this
  refine ⟨hci, ?_, fun h => ?_⟩
  · split at this <;> split at this <;> simp_all <;> omega
  · rw [if_neg h] at this
    split at this
    · omega
    · exact encI_inj (by omega)

theorem op2F_true (x : Int) : (op2F true x = 1 ∧ x % 11 = 0) ∨ (4 ≤ op2F true x ∧ op2F true x ≤ 22 ∧ x % 11 ≠ 0) := by
  unfold op2F op1F
  by_cases h : x % 11 = 0
  · left; rw [if_pos h]; exact ⟨rfl, h⟩
  · right
    rw [if_neg h, if_neg (by simp)]
    have := Int.emod_nonneg x (show (19 : Int) ≠ 0 by omega)
    have := Int.emod_lt_of_pos x (show (0 : Int) < 19 by omega)
    omega

theorem VL.base : VL baseN := by
  intro j hj
  have : j < 3 := hj
  match j, this with
  | 0, _ => right; simp [VN, baseN]
  | 1, _ => right; simp [VN, baseN]
  | 2, _ => left; simp [baseN]
theorem VL.snoc {L : List Nd} (h : VL L) {nd : Nd} (hn : VN L L.length nd) : VL (L ++ [nd]) := by
  have key : ∀ (j : Nat) (n : Nd), j ≤ L.length → VN L j n → VN (L ++ [nd]) j n := fun j n hj hv => ⟨hv.1, fun q hq => by
    obtain ⟨a, b, c⟩ := hv.2 q hq
    refine ⟨a, b, ?_⟩
    rwa [List.getD, List.getElem?_append_left (by omega), ← List.getD]⟩
  intro j hj
  by_cases e : j < L.length
  · rw [List.getElem_append_left e]
    rcases h j e with h1 | h1
    · exact .inl h1
    · exact .inr (key j _ (by omega) h1)
  · have e : j = L.length := by simp at hj; omega
    subst e
    right
    simp only [List.getElem_concat_length]
    exact key _ _ (by omega) hn
theorem nodeOf_vn {out : List Nd} (hv : VL out) (hb : ∃ r, out = baseN ++ r) (x : Int) : VN out out.length (nodeOf true out x) := by
  have hop := op2F_true x
  obtain ⟨r, rfl⟩ := hb
  have himm : imm4F (op2F true x) x (imm3F (op2F true x) x (imm2F x)) = imm2F x := by
    unfold imm4F imm3F
    rw [if_neg (by omega), if_neg (by omega)]
  have hos : ∀ k : Nat, operandSortF (op2F true x) k = 1 := fun k => by
    unfold operandSortF pSortF
    rw [if_neg (by omega : ¬(op2F true x = 27 ∨ op2F true x = 28 ∨ op2F true x = 29)), if_neg (by omega)]
  refine ⟨?_, fun q hq => ?_⟩
  · unfold nodeOf
    rw [himm]
    have hl : (kidsTo (baseN ++ r) (op2F true x) x (arityF (op2F true x)).1.toNat).length = (arityF (op2F true x)).1.toNat := by simp [kidsTo]
    dsimp only
    rw [hl]
    generalize op2F true x = op at *
    rcases hop with ⟨rfl, h0⟩ | ⟨h1, h2, h0⟩
    · left; simp [arityF]
    · have hi : imm2F x = 0 := by unfold imm2F; rw [if_neg h0]
      rw [hi]
      by_cases e1 : op ≤ 19
      · have : (arityF op).1 = 2 := by unfold arityF; (repeat' split) <;> first | rfl | (exfalso; omega)
        rw [this]; right; right; left; exact ⟨h1, e1, rfl, rfl⟩
      · by_cases e2 : op = 22
        · subst e2; right; right; right; right; simp [arityF]
        · have : op = 20 ∨ op = 21 := by omega
          right; right; right; left
          rcases this with rfl | rfl <;> simp [arityF]
  · simp only [nodeOf, kidsTo, List.mem_map, List.mem_range] at hq
    obtain ⟨k, hk, rfl⟩ := hq
    rw [hos k]
    obtain ⟨a, b, c⟩ := ofF_spec (baseN ++ r) 1 ((seedsF x).getD k 0) (idxs_base r 1 (.inl rfl))
    refine ⟨a, b, fun e => ?_⟩
    unfold sortsF at c
    rw [hv.sorts _ (Nat.le_refl _) _ (by omega), if_pos e] at c
    omega
theorem nodesF_vl (l : List Int) : VL (nodesF true l) :=
  (foldl_inv (fun out => VL out ∧ ∃ r, out = baseN ++ r) (nodesStep true) (l.take 14) baseN ⟨VL.base, [], by simp⟩ (fun out x _ h => ⟨by
    unfold nodesStep
    split
    · exact h.1
    · exact h.1.snoc (nodeOf_vn h.1 h.2 x), nodesStep_base true out x h.2⟩)).1
end Go.Proofs.Ytlehiklgbladoaa
