/-
  What the laws of chapter 11 say, in plain Lean: the generated nodes refer to one another; closures of alike pairs are alike.
-/
import Derived.Test.YtlehiklgbladoaaPairsC
import Derived.Test.YtlehiklgbladoaaPass
namespace Go.Proofs.Ytlehiklgbladoaa

theorem wordF_i64 {n raw : Int} (h : I64 raw) : I64 (wordF n raw) := by
  unfold wordF
  split
  · have h1 := Int.emod_nonneg n (show (24 : Int) ≠ 0 by omega)
    generalize n % 24 = y at *
    obtain ⟨k, rfl⟩ := Int.eq_ofNat_of_zero_le h1
    match k with
    | 0 | 1 | 2 | 3 | 4 | 5 | 6 | 7 | 8 | 9 => simp [edgesF, I64]
    | k + 10 => omega
  · split
    · have h1 := Int.emod_nonneg (n.tdiv 24) (show (17 : Int) ≠ 0 by omega)
      have h2 := Int.emod_lt_of_pos (n.tdiv 24) (show (0 : Int) < 17 by omega)
      unfold I64; omega
    · exact h

/-- What the generated nodes are like. -/
structure Good (out : List Nd) : Prop where
  base : ∃ r, out = baseN ++ r
  kids : ∀ nd ∈ out, okKids out.length nd.kids = true
  ok : ∀ nd ∈ out, NdOk nd

theorem okKids_mono {n m : Nat} {kids : List Int} (h : okKids n kids = true) (hm : n ≤ m) : okKids m kids = true := by
  simp only [okKids, List.all_eq_true, Bool.and_eq_true, decide_eq_true_eq] at h ⊢
  intro x hx
  have := h x hx
  omega

theorem kidsTo_ok (out : List Nd) (op x : Int) (j : Nat) (hb : ∃ r, out = baseN ++ r) : okKids out.length (kidsTo out op x j) = true := by
  simp only [okKids, List.all_eq_true, Bool.and_eq_true, decide_eq_true_eq]
  intro y hy
  obtain ⟨i, _, rfl⟩ := List.mem_map.1 hy
  obtain ⟨r, hr⟩ := hb
  have := ofF_spec out (operandSortF op i) ((seedsF x).getD i 0) (by rw [hr]; exact idxs_base r _ (operandSort_cases op i))
  exact ⟨this.1, this.2.1⟩

theorem nodeOf_ok (values : Bool) (out : List Nd) (x : Int) (hx : I64 x) : NdOk (nodeOf values out x) := by
  have h1 := op2F_range values x
  have h2 := nodeOf_small values out x
  have hw : I64 (imm2F x) := by
    unfold imm2F; split
    · exact wordF_i64 hx
    · unfold I64; omega
  have h3 := Int.emod_nonneg (x.tdiv 5) (show (2 : Int) ≠ 0 by omega)
  have h4 := Int.emod_lt_of_pos (x.tdiv 5) (show (0 : Int) < 2 by omega)
  refine ⟨by show I64 (op2F values x); unfold I64; omega, ?_, by omega⟩
  show I64 (imm4F _ _ (imm3F _ _ _))
  unfold imm4F imm3F
  split
  · unfold I64; omega
  · split
    · unfold I64; omega
    · exact hw

theorem Good.step {out : List Nd} (h : Good out) (values : Bool) (x : Int) (hx : I64 x) : Good (nodesStep values out x) := by
  refine ⟨nodesStep_base values out x h.base, ?_, ?_⟩
  · unfold nodesStep
    split
    · exact h.kids
    · intro nd hnd
      rcases List.mem_append.1 hnd with h1 | h1
      · exact okKids_mono (h.kids nd h1) (by simp)
      · simp at h1; subst h1
        exact okKids_mono (kidsTo_ok out _ x _ h.base) (by simp)
  · unfold nodesStep
    split
    · exact h.ok
    · intro nd hnd
      rcases List.mem_append.1 hnd with h1 | h1
      · exact h.ok nd h1
      · simp at h1; subst h1
        exact nodeOf_ok values out x hx

theorem good_base : Good baseN := ⟨⟨[], by simp⟩, by simp [baseN, okKids], by simp [baseN, NdOk, I64]⟩
theorem nodesF_good (values : Bool) (l : List Int) (hl : ∀ x ∈ l, I64 x) : Good (nodesF values l) :=
  foldl_inv Good (nodesStep values) _ _ good_base (fun _ b hb h => h.step values b (hl b (List.mem_of_mem_take hb)))
theorem Good.pos {out : List Nd} (h : Good out) : 3 ≤ out.length := by obtain ⟨r, rfl⟩ := h.base; simp [baseN]
theorem nodesF_len (values : Bool) (l : List Int) : (nodesF values l).length ≤ 17 := nodesTo_len values l 14
theorem pairsF_len (m : List Int) (n : Int) : (pairsF m n).length ≤ 6 := by unfold pairsF; rw [pairsTo_len]; omega

/-! Closures -/
theorem IsCl.of_resp {L : List Nd} {ps qs : List (Int × Int)} {c : Nat → Nat} (h : IsCl L ps c) (h1 : ∀ d, Resp L ps d → Resp L qs d) (h2 : ∀ d, Resp L qs d → Resp L ps d) : IsCl L qs c :=
  ⟨h.named, h1 c h.resp, fun d hd => h.snd d (h2 d hd)⟩
theorem Resp.sub {L : List Nd} {ps qs : List (Int × Int)} {d : Nat → Nat} (h : Resp L ps d) (hs : ∀ p ∈ qs, p ∈ ps) : Resp L qs d := ⟨fun p hp => h.pair p (hs p hp), h.cong⟩
theorem IsCl.mono {L : List Nd} {ps qs : List (Int × Int)} {c d : Nat → Nat} (h : IsCl L qs c) (h' : IsCl L ps d) (hs : ∀ p ∈ qs, p ∈ ps) {i j : Nat} (hi : i < L.length) (hj : j < L.length) (e : c i = c j) : d i = d j :=
  h.snd d (h'.resp.sub hs) i j hi hj e

def ownTo (c : Nat → Nat) (k : Nat) : List (Int × Int) := (List.range k).map fun i => ((c i : Int), (i : Int))
theorem ownTo_succ (c : Nat → Nat) (k : Nat) : ownTo c (k + 1) = ownTo c k ++ [((c k : Int), (k : Int))] := by simp [ownTo, List.range_succ]
theorem ownTo_len (c : Nat → Nat) (k : Nat) : (ownTo c k).length = k := by simp [ownTo]
theorem IsCl.own {L : List Nd} {ps : List (Int × Int)} {c : Nat → Nat} (h : IsCl L ps c) : IsCl L (ownTo c L.length) c := by
  refine ⟨h.named, ⟨?_, h.resp.cong⟩, ?_⟩
  · intro p hp _ _
    obtain ⟨i, hi, rfl⟩ := List.mem_map.1 hp
    have := List.mem_range.1 hi
    simpa using h.named.idem i this
  · intro d hd i j hi hj e
    have key : ∀ i, i < L.length → d (c i) = d i := fun i hi => by
      have := h.named.lt hi
      have := hd.pair ((c i : Int), (i : Int)) (List.mem_map.2 ⟨i, List.mem_range.2 hi, rfl⟩) ⟨by simp, by simpa using this⟩ ⟨by simp, by simpa using hi⟩
      simpa using this
    rw [← key i hi, ← key j hj, e]

/-- The pairs backwards, each turned round, a reflexive pair behind each. -/
def backTo (ps : List (Int × Int)) (n : Nat) (k : Nat) : List (Int × Int) :=
  (List.range k).flatMap fun j => [((ps.getD (ps.length - 1 - j) (0, 0)).2, (ps.getD (ps.length - 1 - j) (0, 0)).1), ((((ps.length - 1 - j) % n : Nat) : Int), (((ps.length - 1 - j) % n : Nat) : Int))]
theorem backTo_succ (ps : List (Int × Int)) (n k : Nat) : backTo ps n (k + 1) = backTo ps n k ++ [((ps.getD (ps.length - 1 - k) (0, 0)).2, (ps.getD (ps.length - 1 - k) (0, 0)).1), ((((ps.length - 1 - k) % n : Nat) : Int), (((ps.length - 1 - k) % n : Nat) : Int))] := by
  simp [backTo, List.range_succ]
theorem backTo_len (ps : List (Int × Int)) (n k : Nat) : (backTo ps n k).length = 2 * k := by
  induction k with
  | zero => rfl
  | succ k ih => rw [backTo_succ, List.length_append, ih]; simp; omega
theorem Resp.back {L : List Nd} {ps : List (Int × Int)} {d : Nat → Nat} (n : Nat) (h : Resp L ps d) : Resp L (backTo ps n ps.length) d := by
  refine ⟨fun p hp h1 h2 => ?_, h.cong⟩
  obtain ⟨j, hj, hp⟩ := List.mem_flatMap.1 hp
  have hj := List.mem_range.1 hj
  have hlt : ps.length - 1 - j < ps.length := by omega
  rw [List.getD, List.getElem?_eq_getElem hlt] at hp
  simp only [List.mem_cons, List.not_mem_nil, or_false, Option.getD_some] at hp
  rcases hp with rfl | rfl
  · exact (h.pair _ (List.getElem_mem hlt) h2 h1).symm
  · rfl
theorem Resp.of_back {L : List Nd} {ps : List (Int × Int)} {d : Nat → Nat} (n : Nat) (h : Resp L (backTo ps n ps.length) d) : Resp L ps d := by
  refine ⟨fun p hp h1 h2 => ?_, h.cong⟩
  obtain ⟨j, hj, rfl⟩ := List.mem_iff_getElem.1 hp
  refine (h.pair (ps[j].2, ps[j].1) ?_ h2 h1).symm
  refine List.mem_flatMap.2 ⟨ps.length - 1 - j, List.mem_range.2 (by omega), ?_⟩
  have e : ps.length - 1 - (ps.length - 1 - j) = j := by omega
  rw [e, List.getD, List.getElem?_eq_getElem hj]
  simp
theorem IsCl.back {L : List Nd} {ps : List (Int × Int)} {c : Nat → Nat} (n : Nat) (h : IsCl L ps c) : IsCl L (backTo ps n ps.length) c :=
  h.of_resp (fun _ hd => hd.back n) (fun _ hd => hd.of_back n)

def clL (L : List Nd) (c : Nat → Nat) : List Int := (List.range L.length).map fun i => (c i : Int)
theorem clL_len (L : List Nd) (c : Nat → Nat) : (clL L c).length = L.length := by simp [clL]
theorem clL_get (L : List Nd) (c : Nat → Nat) {i : Nat} (h : i < (clL L c).length) : (clL L c)[i] = (c i : Int) := by simp [clL]
theorem IsCl.same {L : List Nd} {ps : List (Int × Int)} {c c' : Nat → Nat} (h : IsCl L ps c) (h' : IsCl L ps c') : clL L c = clL L c' := by
  unfold clL
  apply List.map_congr_left
  intro i hi
  rw [h.unique h' (List.mem_range.1 hi)]
end Go.Proofs.Ytlehiklgbladoaa
