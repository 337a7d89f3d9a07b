/-
  A node added to an e-graph, in plain Lean. No program in sight.
  What (*egraph.Graph).Add does: it adds a node, or finds it, or rejects it.
-/
import Derived.Test.YtigambcefdeaoaaRebP
import Derived.Test.YtigambcefdeaoaaGClA
import Derived.Test.YtigambcefdeaoaaAppF
import Derived.Test.YtigambcefdeaoaaDrawn
namespace Go.Proofs.Ytigambcefdeaoaa

/-- The sort that a node would have at the end. -/
def addSort (G : EG) (nd : Nd) : Int := sortsStep (G.L ++ [nd]) (sortsF G.L) nd
theorem sortsF_len (L : List Nd) : (sortsF L).length = L.length := by unfold sortsF; exact sortsTo_len _ _
theorem sortsF_snoc (L : List Nd) (nd : Nd) : sortsF (L ++ [nd]) = sortsF L ++ [sortsStep (L ++ [nd]) (sortsF L) nd] := by
  have h := sorts_snoc (L := L ++ [nd]) (k := L.length) (by simp)
  have e1 : (L ++ [nd]).take L.length = L := by simp
  have e2 : (L ++ [nd])[L.length]'(by simp) = nd := by simp
  rw [e1, e2] at h
  rw [h]
  congr 2
  rw [sorts_step (L := L ++ [nd]) (q := L.length) (by simp), e2]
  congr 1
  rw [← sorts_take (L := L ++ [nd]) (k := L.length) (by simp), e1]
theorem addSort_get (G : EG) (nd : Nd) : (sortsF (G.L ++ [nd])).getD G.L.length 0 = addSort G nd := by
  rw [sortsF_snoc]
  have := sortsF_len G.L
  simp [List.getD, addSort, ← this]

/-- What Add finds: the first identical node. -/
def sameAt (G : EG) (nd : Nd) : Option Nat := idxF G.L (ndKey nd)
/-- The first congruent node. -/
def olderOf (G : EG) (nd : Nd) : Option Nat := (List.range G.L.length).find? fun i => cgB G.c (G.L.getD i nd0) nd
def addG (G : EG) (nd : Nd) : EG :=
  if addSort G nd = 0 then G else
  match sameAt G nd with
  | some _ => G
  | none => if 2000 ≤ G.L.length then G else
    match olderOf G nd with
    | none => G.add nd
    | some i => (G.add nd).merge (cgStep i G.L.length)
def addR (G : EG) (nd : Nd) : Int × Int :=
  if addSort G nd = 0 then (0, 1) else
  match sameAt G nd with
  | some i => ((i : Int), 0)
  | none => if 2000 ≤ G.L.length then (0, 8) else ((G.L.length : Int), 0)

theorem add_op {G : EG} {nd : Nd} (h : addSort G nd ≠ 0) : (1 ≤ nd.op ∧ nd.op ≤ 31) ∧ nd.kids.length ≤ 33 ∧ okKids G.L.length nd.kids = true := by
  unfold addSort sortsStep at h
  split at h
  · rename_i hok
    refine ⟨sort_op h, sort_klen h (by simp [kidSorts]), ?_⟩
    have hm := kidsOk_mem hok
    rw [sortsF_len] at hm
    simp only [okKids, List.all_eq_true, Bool.and_eq_true, decide_eq_true_eq]
    exact fun x hx => hm x hx
  · exact absurd rfl h
theorem okKids_i64 {n : Nat} {ks : List Int} (h : okKids n ks = true) (hn : n ≤ 2000) : ∀ x ∈ ks, I64 x := by
  simp only [okKids, List.all_eq_true, Bool.and_eq_true, decide_eq_true_eq] at h
  intro x hx
  have := h x hx
  unfold I64; omega

theorem same_some {G : EG} (hg : GWf G) {nd : Nd} (hok : NdOk nd) (h : addSort G nd ≠ 0) {i : Nat} (hs : sameAt G nd = some i) : ∃ hi : i < G.L.length, G.L[i] = nd := by
  unfold sameAt idxF at hs
  obtain ⟨h1, h2, _⟩ := find_range.1 hs
  obtain ⟨ho, hkl, hkk⟩ := add_op h
  refine ⟨h1, ?_⟩
  rw [getD_of h1, decide_eq_true_eq] at h2
  have oi := hg.op h1
  have ni := hg.wf.ok _ (List.getElem_mem h1)
  obtain ⟨a, b, c⟩ := keyE_inj (by omega) ni.2.1 (by omega) hok.2.1 (okKids_i64 (okKids_mono (hg.wf.kids i h1) (show i ≤ G.L.length by omega)) hg.wf.small) (okKids_i64 hkk hg.wf.small) h2
  generalize G.L[i] = x at *
  obtain ⟨x1, x2, x3⟩ := x
  obtain ⟨y1, y2, y3⟩ := nd
  simp at a b c
  rw [a, b, c]
theorem same_none {G : EG} {nd : Nd} (hs : sameAt G nd = none) {i : Nat} (hi : i < G.L.length) : G.L[i] ≠ nd := by
  unfold sameAt idxF at hs
  intro e
  have := find_range_none.1 hs i hi
  rw [getD_of hi, e] at this
  simp at this
theorem GWf.addWf {G : EG} (hg : GWf G) {nd : Nd} (hok : NdOk nd) (h : addSort G nd ≠ 0) (hs : sameAt G nd = none) (hn : G.L.length < 2000) : GWf (G.add nd) := by
  obtain ⟨ho, hkl, hkk⟩ := add_op h
  have hc : G.c G.L.length = G.L.length := hg.wf.out _ (Nat.le_refl _)
  refine ⟨⟨?_, fun k hk => hg.wf.out k (by simp [EG.add] at hk; omega), fun j hj => ?_, fun x hx => ?_, by simp [EG.add]; omega, fun i j hi hj hij => ?_⟩, fun i hi => ?_⟩
  · refine ⟨fun k hk => ?_, fun k hk => ?_⟩
    · simp [EG.add] at hk
      by_cases e : k = G.L.length
      · subst e; exact Nat.le_of_eq hc
      · exact hg.wf.named.le k (by omega)
    · simp [EG.add] at hk
      by_cases e : k = G.L.length
      · subst e; show G.c (G.c _) = G.c _; rw [hc]; exact hc
      · exact hg.wf.named.idem k (by omega)
  · by_cases e : j = G.L.length
    · subst e
      simpa [EG.add] using hkk
    · have hj' : j < G.L.length := by simp [EG.add] at hj; omega
      have := hg.wf.kids j hj'
      simp only [EG.add]
      rw [List.getElem_append_left hj']; exact this
  · simp only [EG.add, List.mem_append, List.mem_singleton] at hx
    rcases hx with hx | rfl
    · exact hg.wf.ok x hx
    · exact hok
  · simp [EG.add] at hj
    have hi' : i < G.L.length := by omega
    simp only [EG.add]
    rw [List.getElem_append_left hi']
    by_cases e : j = G.L.length
    · subst e; simp; exact same_none hs hi'
    · rw [List.getElem_append_left (by omega)]; exact hg.wf.nodup i j hi' (by omega) hij
  · have hl := sortsF_len G.L
    simp only [EG.add] at hi ⊢
    rw [sortsF_snoc]
    by_cases e : i = G.L.length
    · subst e
      simp [List.getD, ← hl]
      have := h
      unfold addSort at this
      exact this
    · have hi' : i < G.L.length := by simp at hi; omega
      rw [List.getD, List.getElem?_append_left (by omega), ← List.getD]
      exact hg.srt i hi'
theorem older_some {G : EG} {nd : Nd} {i : Nat} (h : olderOf G nd = some i) : i < G.L.length ∧ cgB G.c (G.L.getD i nd0) nd = true ∧ ∀ k, k < i → cgB G.c (G.L.getD k nd0) nd = false := find_range.1 h
theorem addG_wf {G : EG} (hg : GWf G) {nd : Nd} (hok : NdOk nd) : GWf (addG G nd) := by
  unfold addG
  split
  · exact hg
  · rename_i h
    split
    · exact hg
    · rename_i hs
      split
      · exact hg
      · have hw := hg.addWf hok h hs (by omega)
        split
        · exact hw
        · rename_i i hi
          exact ⟨hw.wf.merge (by simp [cgStep, EG.add]; have := (older_some hi).1; omega) (by simp [cgStep, EG.add]), hw.srt⟩

theorem opL_at {L : List Nd} {a : Int × Int} {j : Nat} (hj : j < (opL L a).length) : ∃ k : Nat, (opL L a)[j] = (k : Int) ∧ k < L.length ∧ (L.getD k nd0).op = a.1 ∧ (L.getD k nd0).imm = a.2 := by
  have hm := List.getElem_mem hj
  unfold opL at hm
  obtain ⟨k, hk, e⟩ := List.mem_map.1 hm
  have h2 := List.mem_filter.1 hk
  have h3 := h2.2
  rw [decide_eq_true_eq] at h3
  exact ⟨k, e.symm, List.mem_range.1 h2.1, h3.1, h3.2⟩
theorem opL_mem {L : List Nd} {a : Int × Int} {k : Nat} (h : k < L.length) (h1 : (L.getD k nd0).op = a.1) (h2 : (L.getD k nd0).imm = a.2) : (k : Int) ∈ opL L a := by
  unfold opL
  exact List.mem_map.2 ⟨k, List.mem_filter.2 ⟨List.mem_range.2 h, by rw [decide_eq_true_eq]; exact ⟨h1, h2⟩⟩, rfl⟩
theorem opL_len (L : List Nd) (a : Int × Int) : (opL L a).length ≤ L.length := by
  unfold opL
  rw [List.length_map]
  exact Nat.le_trans (List.length_filter_le _ _) (by simp)
theorem opL_sorted (L : List Nd) (a : Int × Int) : (opL L a).Pairwise (· < ·) := by
  unfold opL
  rw [List.pairwise_map]
  exact ((List.pairwise_lt_range (n := L.length)).filter _).imp (fun h => by omega)
theorem opL_lt {L : List Nd} {a : Int × Int} {i j : Nat} (hi : i < (opL L a).length) (hj : j < (opL L a).length) (h : (opL L a)[i] < (opL L a)[j]) : i < j := by
  rcases Nat.lt_or_ge i j with q | q
  · exact q
  · rcases Nat.lt_or_ge j i with q2 | q2
    · have := List.pairwise_iff_getElem.1 (opL_sorted L a) j i hj hi q2; omega
    · have : i = j := by omega
      subst this; omega
theorem cgB_kids {c : Nat → Nat} {a b : Nd} (h1 : a.op = b.op) (h2 : a.imm = b.imm) : cgB c a b = decide (ckids c a.kids = ckids c b.kids) := by
  rw [Bool.eq_iff_iff, cgB_iff, decide_eq_true_eq, ckids_eq]
  exact ⟨fun h => h.2.2, fun h => ⟨h1, h2, h⟩⟩
theorem older_at {G : EG} {nd : Nd} {j k : Nat} (hj : j < (opL G.L (nd.op, nd.imm)).length) (hk : (opL G.L (nd.op, nd.imm))[j] = (k : Int)) (hc : ckids G.c (G.L.getD k nd0).kids = ckids G.c nd.kids)
    (hall : ∀ q (h : q < (opL G.L (nd.op, nd.imm)).length), q < j → ckids G.c (G.L.getD ((opL G.L (nd.op, nd.imm))[q]).toNat nd0).kids ≠ ckids G.c nd.kids) : olderOf G nd = some k := by
  obtain ⟨k', e, h1, h2, h3⟩ := opL_at hj
  obtain rfl : k = k' := by omega
  unfold olderOf
  rw [find_range]
  refine ⟨h1, by rw [cgB_kids h2 h3]; exact decide_eq_true hc, fun q hq => ?_⟩
  cases hcg : cgB G.c (G.L.getD q nd0) nd with
  | false => rfl
  | true =>
    obtain ⟨a1, a2, a3⟩ := cgB_iff.1 hcg
    obtain ⟨p, hp, ep⟩ := List.mem_iff_getElem.1 (opL_mem (L := G.L) (a := (nd.op, nd.imm)) (k := q) (by omega) a1 a2)
    have hlt := opL_lt hp hj (by rw [ep, hk]; omega)
    exact absurd (ckids_eq.2 a3) (by have := hall p hp hlt; rw [ep] at this; simpa using this)
theorem older_no {G : EG} {nd : Nd} (hall : ∀ q (h : q < (opL G.L (nd.op, nd.imm)).length), ckids G.c (G.L.getD ((opL G.L (nd.op, nd.imm))[q]).toNat nd0).kids ≠ ckids G.c nd.kids) : olderOf G nd = none := by
  unfold olderOf
  rw [find_range_none]
  intro q hq
  cases hcg : cgB G.c (G.L.getD q nd0) nd with
  | false => rfl
  | true =>
    obtain ⟨a1, a2, a3⟩ := cgB_iff.1 hcg
    obtain ⟨p, hp, ep⟩ := List.mem_iff_getElem.1 (opL_mem (L := G.L) (a := (nd.op, nd.imm)) (k := q) hq a1 a2)
    exact absurd (ckids_eq.2 a3) (by have := hall p hp; rw [ep] at this; simpa using this)
def olderI (G : EG) (nd : Nd) : Int := match olderOf G nd with
  | some k => (k : Int)
  | none => -1
end Go.Proofs.Ytigambcefdeaoaa

namespace Go.Proofs.Ytigambcefdeaoaa
open Go.RowKit

def addRet (G : EG) (nd : Nd) : Value := .tuple #[.int .i64 (addR G nd).1, .int .i64 (addR G nd).2]

/-- The nodes with one more, in a block of their own. -/
theorem GL.more {w w8 : World} {ρ : Nat → Role} {n : Nat} {L : List Nd} {cs : List Value} {op imm : Int} {kids : List Int} {KA : Option Addr} {kc c8 B : Nat} (hc : NodeCells w (fun k => ρ k = .kids) cs L) (hn : L.length = n)
    (hk : Ints w (· < w.heap.size) KA kids) (hkc : kids.length ≤ kc) (hB : w.heap.size ≤ B) (u : Upd Non w w8) (ho : Own w8 24 3 (some ⟨B, 0, none⟩) (n + 1) c8 (cs ++ [.int .i64 op, .int .i64 imm, .slice KA kids.length kc])) :
    NodesV w8 (fun _ => True) (some ⟨B, 0, none⟩) (L ++ [⟨op, imm, kids⟩]) := by
  have h1 := (hc.mono (K' := fun k => k < w.heap.size) (Upd.refl (S := Non)) (fun _ _ _ f => f) (fun k hk _ => hk)).snoc (nd := ⟨op, imm, kids⟩) hk hkc
  have h2 := h1.mono (K' := fun k => (k < w.heap.size) ∧ ¬ At (some ⟨B, 0, none⟩) k) u (fun _ _ _ f => f) (fun k _ hk => ⟨hk, fun hA => by rw [At.some_] at hA; have : k < w.heap.size := hk; omega⟩)
  exact NodesO.view (G := fun k => k < w.heap.size) (n := n + 1) (c := c8) ⟨by simp [hn], _, ho, h2⟩ (fun _ _ => trivial) (fun _ _ _ => trivial)

set_option maxRecDepth 100000 in
set_option maxHeartbeats 4000000 in
theorem gAdd_c (w : World) (ρ : Nat → Role) (gb : Nat) (a : GA) (G : EG) (h : GM w ρ gb a G) (hg : GWf G) (hT : G.T.length ≤ 900000000) (op imm : Int) (kids : List Int) (KA : Option Addr) (kc : Nat) (F : Nat → Prop) (hk : Ints w F KA kids) (hkc : kids.length ≤ kc)
    (hF : ∀ k, k < w.heap.size → F k → ρ k = .no) (hok : NdOk ⟨op, imm, kids⟩) (hkl : kids.length ≤ 100000000000) :
    Calls Try.prog 22 #[gp gb, .agg #[.int .i64 op, .int .i64 imm, .slice KA kids.length kc]] w fun e w' => e = .returned (addRet G ⟨op, imm, kids⟩) ∧ Next w ρ gb w' (addG G ⟨op, imm, kids⟩) := by
  have hk0 := hk.mono (G := fun k => k < w.heap.size ∧ ρ k = .no) (fun k hk hf => ⟨hk, hF k hk hf⟩)
  clear hk hF
  obtain ⟨W, HW⟩ := nm (w.alloc (.cells #[.int .i64 op, .int .i64 imm, .slice KA kids.length kc] 24))
  have hU : Upd Non w W := by rw [← HW.out]; exact Upd.refl.alloc _
  have hb : Blk W w.heap.size 24 #[.int .i64 op, .int .i64 imm, .slice KA kids.length kc] := by rw [← HW.out]; exact Blk.new _ _ _
  have hWs : w.heap.size < W.heap.size := hb.lt
  have hk1 := hk0.upd hU (fun _ _ _ f => f)
  have e0 := HW.out
  have hM := h.non hU
  have Hnb : ρ w.heap.size = .no := Classical.byContradiction fun hne => by have := h.bnd _ hne; omega
  have Hbw := Lib.hid h.bnd
  have HH := Lib.hid h
  have hn2 := hg.wf.small
  have HG := Lib.hid hg
  have HOK := Lib.hid hok
  obtain ⟨lcs, hlo, hlc, hlr⟩ := hM.l
  have hle := hlo.le
  have hlen := hlo.len
  have hsl := hlo.sl
  have hAn : a.l = none → G.L.length = 0 := fun e => by
    rcases hlo.cases with ⟨_, h0, _⟩ | ⟨g, cur, e2, _⟩
    · exact h0
    · rw [e] at e2; cases e2
  have HAN := Lib.hid hAn
  have c0 := hM.c0
  have d0 := hb.cell 0
  have d1 := hb.cell 1
  have d2 := hb.cell 2
  have HM := Lib.hid hM
  clear h hg hok hM hlo hAn hlr hk0
  obtain ⟨nd, Hnd⟩ := nm (⟨op, imm, kids⟩ : Nd)
  obtain ⟨n, Hn⟩ := nm G.L.length
  rw [Hn.out] at hle hlen HAN c0 hn2
  have HLEN := Lib.hid hlen
  have hNk : ∀ x ∈ G.L ++ [nd], x.kids.length ≤ 100000000000 := fun x hx => by
    rcases List.mem_append.1 hx with hx | hx
    · obtain ⟨i, hi, rfl⟩ := List.mem_iff_getElem.1 hx
      have := HG.out.klen hi
      omega
    · rw [List.mem_singleton] at hx; subst hx; rw [← Hnd.out]; exact hkl
  have HNK := Lib.hid hNk
  clear hlen hNk
  unfold gp
  rw [Hnd.out]
  have i0 : (0 : Int) ≤ (n : Int) := by omega
  have i1 : (n : Int) ≤ (a.lc : Int) := by omega
  go_enter Try.func22, Try.ntmps22
  go_wp2_with fail
  have q0 : W.drew.cell? ⟨gb, 0, none⟩ = some (.slice a.l n a.lc) := c0
  have q1 : W.drew.cell? ⟨w.heap.size, 0, none⟩ = some (.int .i64 op) := d0
  have q2 : W.drew.cell? ⟨w.heap.size, 1, none⟩ = some (.int .i64 imm) := d1
  have q3 : W.drew.cell? ⟨w.heap.size, 2, none⟩ = some (.slice KA kids.length kc) := d2
  refine wp_region_held_drew (S := fun w' => w'.cell? ⟨gb, 0, none⟩ = some (.slice a.l n a.lc) ∧ w'.cell? ⟨w.heap.size, 0, none⟩ = some (.int .i64 op) ∧ w'.cell? ⟨w.heap.size, 1, none⟩ = some (.int .i64 imm) ∧ w'.cell? ⟨w.heap.size, 2, none⟩ = some (.slice KA kids.length kc)) (by kernel_rfl) ⟨q0, q1, q2, q3⟩ (fun hHeld => ?_)
  refine wpAnyH_take (i := 0) (v := ?_) rfl (by kernel_rfl) (by kernel_rfl) (by kernel_rfl) (fun _ _ _ h => h) (Or.inl ⟨by rfl, ?_⟩) (by assumption) ?_
  rotate_left
  · intro w hSw; (try dsimp only at hSw); go_simp; try with_reducible rfl
  try simp only [put_y]
  try simp only [Act.put]
  try simp only [put_z]
  refine wpAnyH_take (i := 1) (v := ?_) rfl (by kernel_rfl) (by kernel_rfl) (by kernel_rfl) (fun _ _ _ h => h) (Or.inl ⟨by rfl, ?_⟩) (by assumption) ?_
  rotate_left
  · intro w hSw; (try dsimp only at hSw); go_simp; try with_reducible rfl
  try simp only [put_y]
  try simp only [Act.put]
  try simp only [put_z]
  refine wpAnyH_take (i := 2) (v := ?_) rfl (by kernel_rfl) (by kernel_rfl) (by kernel_rfl) (fun _ _ _ h => h) (Or.inl ⟨by rfl, ?_⟩) (by assumption) ?_
  rotate_left
  · intro w hSw; (try dsimp only at hSw); go_simp; try with_reducible rfl
  try simp only [put_y]
  try simp only [Act.put]
  try simp only [put_z]
  refine wpAnyH_take (i := 3) (v := ?_) rfl (by kernel_rfl) (by kernel_rfl) (by kernel_rfl) (fun _ _ _ h => h) (Or.inl ⟨by rfl, ?_⟩) (by assumption) ?_
  rotate_left
  · intro w hSw; (try dsimp only at hSw); go_simp; try with_reducible rfl
  try simp only [put_y]
  try simp only [Act.put]
  try simp only [put_z]
  refine wpAnyH_take (i := 4) (v := ?_) rfl (by kernel_rfl) (by kernel_rfl) (by kernel_rfl) (fun _ _ _ h => h) (Or.inl ⟨by rfl, ?_⟩) (by assumption) ?_
  rotate_left
  · intro w hSw; (try dsimp only at hSw); go_simp; try with_reducible rfl
  try simp only [put_y]
  try simp only [Act.put]
  try simp only [put_z]
  refine wpAnyH_take (i := 5) (v := ?_) rfl (by kernel_rfl) (by kernel_rfl) (by kernel_rfl) (fun _ _ _ h => h) (Or.inl ⟨by rfl, ?_⟩) (by assumption) ?_
  rotate_left
  · intro w hSw; (try dsimp only at hSw); go_simp; try with_reducible rfl
  try simp only [put_y]
  try simp only [Act.put]
  try simp only [put_z]
  refine wpAnyH_take (i := 6) (v := ?_) rfl (by kernel_rfl) (by kernel_rfl) (by kernel_rfl) (fun _ _ _ h => h) (Or.inl ⟨by rfl, ?_⟩) (by assumption) ?_
  rotate_left
  · intro w hSw; (try dsimp only at hSw); go_simp; try with_reducible rfl
  try simp only [put_y]
  try simp only [Act.put]
  try simp only [put_z]
  refine wpAnyH_take (i := 7) (v := ?_) rfl (by kernel_rfl) (by kernel_rfl) (by kernel_rfl) (fun _ _ _ h => h) (Or.inl ⟨by rfl, ?_⟩) (by assumption) ?_
  rotate_left
  · intro w hSw; (try dsimp only at hSw); go_simp; try with_reducible rfl
  try simp only [put_y]
  try simp only [Act.put]
  try simp only [put_z]
  refine wpAnyH_take (i := 8) (v := ?_) rfl (by kernel_rfl) (by kernel_rfl) (by kernel_rfl) (fun _ _ _ h => h) (Or.inl ⟨by rfl, ?_⟩) (by assumption) ?_
  rotate_left
  · intro w hSw; (try dsimp only at hSw); go_simp; try with_reducible rfl
  try simp only [put_y]
  try simp only [Act.put]
  try simp only [put_z]
  refine wpAnyH_take (i := 9) (v := ?_) rfl (by kernel_rfl) (by kernel_rfl) (by kernel_rfl) (fun _ _ _ h => h) (Or.inl ⟨by rfl, ?_⟩) (by assumption) ?_
  rotate_left
  · intro w hSw; (try dsimp only at hSw); go_simp; try with_reducible rfl
  try simp only [put_y]
  try simp only [Act.put]
  try simp only [put_z]
  refine wpAnyH_take (i := 10) (v := ?_) rfl (by kernel_rfl) (by kernel_rfl) (by kernel_rfl) (fun _ _ _ h => h) (Or.inl ⟨by rfl, ?_⟩) (by assumption) ?_
  rotate_left
  · intro w hSw; (try dsimp only at hSw); go_simp; try with_reducible rfl
  try simp only [put_y]
  try simp only [Act.put]
  try simp only [put_z]
  refine wpAnyH_take (i := 11) (v := ?_) rfl (by kernel_rfl) (by kernel_rfl) (by kernel_rfl) (fun _ _ _ h => h) (Or.inl ⟨by rfl, ?_⟩) (by assumption) ?_
  rotate_left
  · intro w hSw; (try dsimp only at hSw); go_simp; try with_reducible rfl
  try simp only [put_y]
  try simp only [Act.put]
  try simp only [put_z]
  refine wpAnyH_take (i := 12) (v := ?_) rfl (by kernel_rfl) (by kernel_rfl) (by kernel_rfl) (fun _ _ _ h => h) (Or.inl ⟨by rfl, ?_⟩) (by assumption) ?_
  rotate_left
  · intro w hSw; (try dsimp only at hSw); go_simp; try with_reducible rfl
  try simp only [put_y]
  try simp only [Act.put]
  try simp only [put_z]
  refine wpAnyH_take (i := 13) (v := ?_) rfl (by kernel_rfl) (by kernel_rfl) (by kernel_rfl) (fun _ _ _ h => h) (Or.inl ⟨by rfl, ?_⟩) (by assumption) ?_
  rotate_left
  · intro w hSw; (try dsimp only at hSw); go_simp; try with_reducible rfl
  try simp only [put_y]
  try simp only [Act.put]
  try simp only [put_z]
  refine wpAnyH_take (i := 14) (v := ?_) rfl (by kernel_rfl) (by kernel_rfl) (by kernel_rfl) (fun _ _ _ h => h) (Or.inl ⟨by rfl, ?_⟩) (by assumption) ?_
  rotate_left
  · intro w hSw; (try dsimp only at hSw); go_simp; try with_reducible rfl
  try simp only [put_y]
  try simp only [Act.put]
  try simp only [put_z]
  refine wpAnyH_take (i := 15) (v := ?_) rfl (by kernel_rfl) (by kernel_rfl) (by kernel_rfl) (fun _ _ _ h => h) (Or.inl ⟨by rfl, ?_⟩) (by assumption) ?_
  rotate_left
  · intro w hSw; (try dsimp only at hSw); go_simp; try with_reducible rfl
  try simp only [put_y]
  try simp only [Act.put]
  try simp only [put_z]
  refine wpAnyH_take (i := 18) (v := ?_) rfl (by kernel_rfl) (by kernel_rfl) (by kernel_rfl) (fun _ _ _ h => h) (Or.inl ⟨by rfl, ?_⟩) (by assumption) ?_
  rotate_left
  · intro w hSw; (try dsimp only at hSw); go_simp; try with_reducible rfl
  try simp only [put_y]
  try simp only [Act.put]
  try simp only [put_z]
  refine wpAnyH_take (i := 19) (v := ?_) rfl (by kernel_rfl) (by kernel_rfl) (by kernel_rfl) (fun _ _ _ h => h) (Or.inl ⟨by rfl, ?_⟩) (by assumption) ?_
  rotate_left
  · intro w hSw; (try dsimp only at hSw); go_simp; try with_reducible rfl
  try simp only [put_y]
  try simp only [Act.put]
  try simp only [put_z]
  refine wpAnyH_take (i := 20) (v := ?_) rfl (by kernel_rfl) (by kernel_rfl) (by kernel_rfl) (fun _ _ _ h => h) (Or.inl ⟨by rfl, ?_⟩) (by assumption) ?_
  rotate_left
  · intro w hSw; (try dsimp only at hSw); go_simp; try with_reducible rfl
  try simp only [put_y]
  try simp only [Act.put]
  try simp only [put_z]
  refine wpAnyH_take (i := 21) (v := ?_) rfl (by kernel_rfl) (by kernel_rfl) (by kernel_rfl) (fun _ _ _ h => h) (Or.inl ⟨by rfl, ?_⟩) (by assumption) ?_
  rotate_left
  · intro w hSw; (try dsimp only at hSw); go_simp; try with_reducible rfl
  try simp only [put_y]
  try simp only [Act.put]
  try simp only [put_z]
  refine wpAnyH_take (i := 22) (v := ?_) rfl (by kernel_rfl) (by kernel_rfl) (by kernel_rfl) (fun _ _ _ h => h) (Or.inl ⟨by rfl, ?_⟩) (by assumption) ?_
  rotate_left
  · intro w hSw; (try dsimp only at hSw); go_simp; try with_reducible rfl
  try simp only [put_y]
  try simp only [Act.put]
  try simp only [put_z]
  refine wpAnyH_ready (rs := [16]) (by kernel_rfl) (by simp) ?_
  refine AllReadyH.cons rfl (fun K hK => ?_) AllReadyH.nil
  go_simp
  have SA : ∀ w' : World, Upd Non W w' → w'.cell? ⟨gb, 0, none⟩ = some (.slice a.l n a.lc) ∧ w'.cell? ⟨w.heap.size, 0, none⟩ = some (.int .i64 op) ∧ w'.cell? ⟨w.heap.size, 1, none⟩ = some (.int .i64 imm) ∧ w'.cell? ⟨w.heap.size, 2, none⟩ = some (.slice KA kids.length kc) := fun w' u => ⟨cell_upd c0 u (fun f => f), cell_upd d0 u (fun f => f), cell_upd d1 u (fun f => f), cell_upd d2 u (fun f => f)⟩
  refine hK.out _ _ ?_ (fun hHeld => ?_)
  · exact SA _ ((Upd.refl.drew (S := Non)).alloc _)
  clear hK K
  try simp only [put_y]
  try simp only [Act.put]
  try simp only [put_z]
  refine wpAnyH_ready (rs := [17]) (by kernel_rfl) (by simp) ?_
  refine AllReadyH.cons rfl (fun K hK => ?_) AllReadyH.nil
  refine step_app_full rfl rfl T_nodes (by rfl) (hsl.upd ((Upd.refl.drew (S := Non)).alloc _) (fun _ _ _ f => f)) HLEN.out HAN.out (by rfl) (Sl.new _ _ _) rfl (by omega) (by simp only [maxLen]; omega) (by omega) ?_
  intro c8 w8 ho8 hu8
  have hu8W : Upd Non W w8 := ((Upd.refl.drew (S := Non)).alloc _).then_non hu8
  refine hK.out _ _ ?_ (fun hHeld => ?_)
  · exact SA _ hu8W
  clear hK K
  try simp only [put_y]
  try simp only [Act.put]
  try simp only [put_z]
  have hV8 : NodesV w8 (fun _ => True) (some ⟨W.heap.size + 1, 0, none⟩) (G.L ++ [nd]) := by
    rw [← Hnd.out]
    refine GL.more (c8 := c8) hlc Hn.out (hk1.mono (fun k hk _ => hk)) hkc (by omega) hu8W ?_
    have : (W.drew.alloc (.cells #[.int .i64 op, .int .i64 imm, .slice KA kids.length kc] 24)).heap.size = W.heap.size + 1 := by simp
    rw [← this]
    exact ho8
  have hc8 : (G.L ++ [nd]).length ≤ c8 := by have := ho8.le; simp [Hn.out]; omega
  have C1 := Lib.hid (irSort_c w8 (fun _ => True) (some ⟨W.heap.size + 1, 0, none⟩) c8 (G.L ++ [nd]) n hV8 hc8 (by simp [Hn.out]) (by simp [Hn.out]; omega) HNK.out)
  have eL : (G.L ++ [nd]).length = n + 1 := by simp [Hn.out]
  have eS : (sortsF ((G.L ++ [nd]).take (n + 1))).getD n 0 = addSort G nd := by rw [← eL, List.take_length, ← Hn.out]; exact addSort_get G nd
  rw [eL, eS] at C1
  clear eL eS hV8 hc8
  refine wpAnyH_ready (rs := [23]) (by kernel_rfl) (by simp) ?_
  refine AllReadyH.cons rfl (fun K hK => ?_) AllReadyH.nil
  go_simp
  refine C1.out.mono ?_
  rintro e w9 ⟨rfl, hu9⟩
  have hu9W := hu8W.then_non hu9
  go_wp2_with fail
  refine hK.out _ _ ?_ (fun hHeld => ?_)
  · exact SA _ hu9W
  clear hK K
  try simp only [put_y]
  try simp only [Act.put]
  try simp only [put_z]
  refine wpAnyH_take (i := 24) (v := ?_) rfl (by kernel_rfl) (by kernel_rfl) (by kernel_rfl) (fun _ _ _ h => h) (Or.inl ⟨by rfl, ?_⟩) (by assumption) ?_
  rotate_left
  · intro w hSw; (try dsimp only at hSw); go_simp; try with_reducible rfl
  try simp only [put_y]
  try simp only [Act.put]
  try simp only [put_z]
  refine wpAnyH_done (by kernel_rfl) ?_ _
  have hU9 := hU.then_non hu9W
  by_cases hz : addSort G nd = 0
  · have HR : Hid (addRet G nd = .tuple #[.int .i64 0, .int .i64 1]) := by show _ = _; simp [addRet, addR, hz]
    have HGa : Hid (addG G nd = G) := by show _ = _; simp [addG, hz]
    rw [hz]
    clear hz C1 SA
    go_wp2_with fail
    go_ret2
    exact ⟨by rw [HR.out]; rfl, by rw [HGa.out]; exact Next.same HH.out hU9⟩
  · have HZ := Lib.hid hz
    obtain ⟨y, Hy⟩ := nm (addSort G nd)
    rw [Hy.out] at hz ⊢
    have hb0 : (y == 0) = false := by simpa using hz
    have ho2 := add_op HZ.out
    have hM9 := HM.out.non hu9W
    have q5 := hM9.c5
    obtain ⟨b0, b1, b2, b3⟩ := SA w9 hu9W
    clear hz C1
    go_wp2_with fail
    have C3 := Lib.hid (nodeKey_c w9.drew op imm KA kc kids (fun k => k < w.heap.size ∧ ρ k = .no) ((hk1.upd hu9W (fun _ _ _ f => f)).upd (Upd.refl.drew (S := Non)) (fun _ _ _ f => f)) hkl)
    have r5 : w9.drew.cell? ⟨gb, 5, none⟩ = some (.map (some a.x)) := q5
    have r1 : w9.drew.cell? ⟨w.heap.size, 0, none⟩ = some (.int .i64 op) := b1
    have r2 : w9.drew.cell? ⟨w.heap.size, 1, none⟩ = some (.int .i64 imm) := b2
    have r3 : w9.drew.cell? ⟨w.heap.size, 2, none⟩ = some (.slice KA kids.length kc) := b3
    refine wp_region_held_drew (S := fun w' => w'.cell? ⟨gb, 5, none⟩ = some (.map (some a.x)) ∧ w'.cell? ⟨w.heap.size, 0, none⟩ = some (.int .i64 op) ∧ w'.cell? ⟨w.heap.size, 1, none⟩ = some (.int .i64 imm) ∧ w'.cell? ⟨w.heap.size, 2, none⟩ = some (.slice KA kids.length kc)) (by kernel_rfl) ⟨r5, r1, r2, r3⟩ (fun hHeld => ?_)
    refine wpAnyH_take (i := 0) (v := ?_) rfl (by kernel_rfl) (by kernel_rfl) (by kernel_rfl) (fun _ _ _ h => h) (Or.inl ⟨by rfl, ?_⟩) (by assumption) ?_
    rotate_left
    · intro w hSw; (try dsimp only at hSw); go_simp; try with_reducible rfl
    try simp only [put_y]
    try simp only [Act.put]
    try simp only [put_z]
    refine wpAnyH_take (i := 1) (v := ?_) rfl (by kernel_rfl) (by kernel_rfl) (by kernel_rfl) (fun _ _ _ h => h) (Or.inl ⟨by rfl, ?_⟩) (by assumption) ?_
    rotate_left
    · intro w hSw; (try dsimp only at hSw); go_simp; try with_reducible rfl
    try simp only [put_y]
    try simp only [Act.put]
    try simp only [put_z]
    refine wpAnyH_take (i := 2) (v := ?_) rfl (by kernel_rfl) (by kernel_rfl) (by kernel_rfl) (fun _ _ _ h => h) (Or.inl ⟨by rfl, ?_⟩) (by assumption) ?_
    rotate_left
    · intro w hSw; (try dsimp only at hSw); go_simp; try with_reducible rfl
    try simp only [put_y]
    try simp only [Act.put]
    try simp only [put_z]
    refine wpAnyH_take (i := 3) (v := ?_) rfl (by kernel_rfl) (by kernel_rfl) (by kernel_rfl) (fun _ _ _ h => h) (Or.inl ⟨by rfl, ?_⟩) (by assumption) ?_
    rotate_left
    · intro w hSw; (try dsimp only at hSw); go_simp; try with_reducible rfl
    try simp only [put_y]
    try simp only [Act.put]
    try simp only [put_z]
    refine wpAnyH_take (i := 4) (v := ?_) rfl (by kernel_rfl) (by kernel_rfl) (by kernel_rfl) (fun _ _ _ h => h) (Or.inl ⟨by rfl, ?_⟩) (by assumption) ?_
    rotate_left
    · intro w hSw; (try dsimp only at hSw); go_simp; try with_reducible rfl
    try simp only [put_y]
    try simp only [Act.put]
    try simp only [put_z]
    refine wpAnyH_ready (rs := [5]) (by kernel_rfl) (by simp) ?_
    refine AllReadyH.cons rfl (fun K hK => ?_) AllReadyH.nil
    go_simp
    refine C3.out.mono ?_
    rintro e wa ⟨rfl, hua'⟩
    have hua : Upd Non w9 wa := Upd.refl.drew.then_non hua'
    have huaW := hu9W.then_non hua
    have hMa := HM.out.non huaW
    have hlook := hMa.x.1.look Try.underlying70 Try.underlying9 (zeroInt _) (keyE op imm kids)
    have SB := SA wa huaW
    have qa5 := hMa.c5
    have hKN : keyE op imm kids = ndKey nd := by rw [← Hnd.out]; rfl
    have HKN := Lib.hid hKN
    have HSV : Hid (idxV G.L (keyE op imm kids) = (sameAt G nd).map fun (i : Nat) => Value.int .i64 (i : Int)) := by show _ = _; rw [hKN]; unfold idxV sameAt; cases idxF G.L (ndKey nd) <;> rfl
    rw [HSV.out] at hlook
    clear hKN hM9 C3 q5
    cases hsa : sameAt G nd with
    | some i =>
      rw [hsa] at hlook
      simp only [Option.map_some, Option.getD_some, Option.isSome_some] at hlook
      have HR : Hid (addRet G nd = .tuple #[.int .i64 (i : Int), .int .i64 0]) := by show _ = _; simp [addRet, addR, HZ.out, hsa]
      have HGa : Hid (addG G nd = G) := by show _ = _; simp [addG, HZ.out, hsa]
      clear hsa
      go_wp2_with fail
      refine hK.out _ _ ?_ (fun hHeld => ?_)
      · exact ⟨qa5, SB.2⟩
      clear hK K
      try simp only [put_y]
      try simp only [Act.put]
      try simp only [put_z]
      refine wpAnyH_ready (rs := [6]) (by kernel_rfl) (by simp) ?_
      refine AllReadyH.cons rfl (fun K hK => ?_) AllReadyH.nil
      go_simp
      refine hK.out _ _ ?_ (fun hHeld => ?_)
      · exact ⟨qa5, SB.2⟩
      clear hK K
      try simp only [put_y]
      try simp only [Act.put]
      try simp only [put_z]
      refine wpAnyH_take (i := 7) (v := ?_) rfl (by kernel_rfl) (by kernel_rfl) (by kernel_rfl) (fun _ _ _ h => h) (Or.inl ⟨by rfl, ?_⟩) (by assumption) ?_
      rotate_left
      · intro w hSw; (try dsimp only at hSw); go_simp; try with_reducible rfl
      try simp only [put_y]
      try simp only [Act.put]
      try simp only [put_z]
      refine wpAnyH_take (i := 8) (v := ?_) rfl (by kernel_rfl) (by kernel_rfl) (by kernel_rfl) (fun _ _ _ h => h) (Or.inl ⟨by rfl, ?_⟩) (by assumption) ?_
      rotate_left
      · intro w hSw; (try dsimp only at hSw); go_simp; try with_reducible rfl
      try simp only [put_y]
      try simp only [Act.put]
      try simp only [put_z]
      refine wpAnyH_take (i := 9) (v := ?_) rfl (by kernel_rfl) (by kernel_rfl) (by kernel_rfl) (fun _ _ _ h => h) (Or.inl ⟨by rfl, ?_⟩) (by assumption) ?_
      rotate_left
      · intro w hSw; (try dsimp only at hSw); go_simp; try with_reducible rfl
      try simp only [put_y]
      try simp only [Act.put]
      try simp only [put_z]
      refine wpAnyH_take (i := 10) (v := ?_) rfl (by kernel_rfl) (by kernel_rfl) (by kernel_rfl) (fun _ _ _ h => h) (Or.inl ⟨by rfl, ?_⟩) (by assumption) ?_
      rotate_left
      · intro w hSw; (try dsimp only at hSw); go_simp; try with_reducible rfl
      try simp only [put_y]
      try simp only [Act.put]
      try simp only [put_z]
      refine wpAnyH_take (i := 11) (v := ?_) rfl (by kernel_rfl) (by kernel_rfl) (by kernel_rfl) (fun _ _ _ h => h) (Or.inl ⟨by rfl, ?_⟩) (by assumption) ?_
      rotate_left
      · intro w hSw; (try dsimp only at hSw); go_simp; try with_reducible rfl
      try simp only [put_y]
      try simp only [Act.put]
      try simp only [put_z]
      refine wpAnyH_done (by kernel_rfl) ?_ _
      go_wp2_with fail
      go_ret2
      exact ⟨by rw [HR.out]; rfl, by rw [HGa.out]; exact Next.same HH.out (hU9.then_non hua)⟩
    | none =>
      rw [hsa] at hlook
      simp only [Option.map_none, Option.getD_none, Option.isSome_none] at hlook
      have HSA := Lib.hid hsa
      have qa0 := SB.1
      clear hsa
      go_wp2_with fail
      refine hK.out _ _ ?_ (fun hHeld => ?_)
      · exact ⟨qa5, SB.2⟩
      clear hK K
      try simp only [put_y]
      try simp only [Act.put]
      try simp only [put_z]
      refine wpAnyH_ready (rs := [6]) (by kernel_rfl) (by simp) ?_
      refine AllReadyH.cons rfl (fun K hK => ?_) AllReadyH.nil
      go_simp
      refine hK.out _ _ ?_ (fun hHeld => ?_)
      · exact ⟨qa5, SB.2⟩
      clear hK K
      try simp only [put_y]
      try simp only [Act.put]
      try simp only [put_z]
      refine wpAnyH_take (i := 7) (v := ?_) rfl (by kernel_rfl) (by kernel_rfl) (by kernel_rfl) (fun _ _ _ h => h) (Or.inl ⟨by rfl, ?_⟩) (by assumption) ?_
      rotate_left
      · intro w hSw; (try dsimp only at hSw); go_simp; try with_reducible rfl
      try simp only [put_y]
      try simp only [Act.put]
      try simp only [put_z]
      refine wpAnyH_take (i := 8) (v := ?_) rfl (by kernel_rfl) (by kernel_rfl) (by kernel_rfl) (fun _ _ _ h => h) (Or.inl ⟨by rfl, ?_⟩) (by assumption) ?_
      rotate_left
      · intro w hSw; (try dsimp only at hSw); go_simp; try with_reducible rfl
      try simp only [put_y]
      try simp only [Act.put]
      try simp only [put_z]
      refine wpAnyH_take (i := 9) (v := ?_) rfl (by kernel_rfl) (by kernel_rfl) (by kernel_rfl) (fun _ _ _ h => h) (Or.inl ⟨by rfl, ?_⟩) (by assumption) ?_
      rotate_left
      · intro w hSw; (try dsimp only at hSw); go_simp; try with_reducible rfl
      try simp only [put_y]
      try simp only [Act.put]
      try simp only [put_z]
      refine wpAnyH_take (i := 10) (v := ?_) rfl (by kernel_rfl) (by kernel_rfl) (by kernel_rfl) (fun _ _ _ h => h) (Or.inl ⟨by rfl, ?_⟩) (by assumption) ?_
      rotate_left
      · intro w hSw; (try dsimp only at hSw); go_simp; try with_reducible rfl
      try simp only [put_y]
      try simp only [Act.put]
      try simp only [put_z]
      refine wpAnyH_take (i := 11) (v := ?_) rfl (by kernel_rfl) (by kernel_rfl) (by kernel_rfl) (fun _ _ _ h => h) (Or.inl ⟨by rfl, ?_⟩) (by assumption) ?_
      rotate_left
      · intro w hSw; (try dsimp only at hSw); go_simp; try with_reducible rfl
      try simp only [put_y]
      try simp only [Act.put]
      try simp only [put_z]
      refine wpAnyH_done (by kernel_rfl) ?_ _
      by_cases hbig : 2000 ≤ n
      · have HR : Hid (addRet G nd = .tuple #[.int .i64 0, .int .i64 8]) := by show _ = _; simp [addRet, addR, HZ.out, HSA.out, Hn.out, hbig]
        have HGa : Hid (addG G nd = G) := by show _ = _; simp [addG, HZ.out, HSA.out, Hn.out, hbig]
        go_wp2_with fail
        go_ret2
        exact ⟨by rw [HR.out]; rfl, by rw [HGa.out]; exact Next.same HH.out (hU9.then_non hua)⟩
      · obtain ⟨om, hom, hmr, hme⟩ := hMa.o
        have hla := hom.look1 Try.underlying69 KT (zeroInts _) (op, imm)
        obtain ⟨l, Hl⟩ := nm (opL G.L (op, imm))
        have hE := hme (op, imm)
        have hll : l.length ≤ n := by rw [← Hl.out, ← Hn.out]; exact opL_len _ _
        obtain ⟨OA, oc, hval, hOI⟩ : ∃ OA oc, (om (op, imm)).getD (.slice none 0 0) = .slice OA l.length oc ∧ Ints wa (fun _ => True) OA l := by
          rw [← Hl.out]
          rcases hE with ⟨e1, e2⟩ | ⟨OA, oc, e1, e2⟩
          · rw [e1, e2]; exact ⟨none, 0, rfl, .nil⟩
          · rw [e1]; exact ⟨OA, oc, rfl, e2.1.ints.mono (fun _ _ _ => trivial)⟩
        rw [hval] at hla
        have qa4 := hMa.c4
        have la : (Instr.lookup 69 (.map (some a.o)) (.agg #[.int .i64 op, .int .i64 imm]) false).run Try.prog wa.drew = .ok (.slice OA l.length oc) wa.drew := by
          have := (hom.upd ((Upd.refl (S := Non)).drew) (fun f => f)).look1 Try.underlying69 KT (zeroInts _) (op, imm)
          rw [hval] at this
          exact this
        have s4 : wa.drew.cell? ⟨gb, 4, none⟩ = some (.map (some a.o)) := qa4
        have s1 : wa.drew.cell? ⟨w.heap.size, 0, none⟩ = some (.int .i64 op) := SB.2.1
        have s2 : wa.drew.cell? ⟨w.heap.size, 1, none⟩ = some (.int .i64 imm) := SB.2.2.1
        clear hlook hE hme hla hval hom
        go_wp2_with fail
        refine wp_region_held_drew (S := fun w' => w'.cell? ⟨gb, 4, none⟩ = some (.map (some a.o)) ∧ w'.cell? ⟨w.heap.size, 0, none⟩ = some (.int .i64 op) ∧ w'.cell? ⟨w.heap.size, 1, none⟩ = some (.int .i64 imm) ∧ (Instr.lookup 69 (.map (some a.o)) (.agg #[.int .i64 op, .int .i64 imm]) false).run Try.prog w' = .ok (.slice OA l.length oc) w') (by kernel_rfl) ⟨s4, s1, s2, la⟩ (fun hHeld => ?_)
        refine wpAnyH_take (i := 0) (v := ?_) rfl (by kernel_rfl) (by kernel_rfl) (by kernel_rfl) (fun _ _ _ h => h) (Or.inl ⟨by rfl, ?_⟩) (by assumption) ?_
        rotate_left
        · intro w hSw; (try dsimp only at hSw); go_simp; try with_reducible rfl
        try simp only [put_y]
        try simp only [Act.put]
        try simp only [put_z]
        refine wpAnyH_take (i := 1) (v := ?_) rfl (by kernel_rfl) (by kernel_rfl) (by kernel_rfl) (fun _ _ _ h => h) (Or.inl ⟨by rfl, ?_⟩) (by assumption) ?_
        rotate_left
        · intro w hSw; (try dsimp only at hSw); go_simp; try with_reducible rfl
        try simp only [put_y]
        try simp only [Act.put]
        try simp only [put_z]
        refine wpAnyH_take (i := 2) (v := ?_) rfl (by kernel_rfl) (by kernel_rfl) (by kernel_rfl) (fun _ _ _ h => h) (Or.inl ⟨by rfl, ?_⟩) (by assumption) ?_
        rotate_left
        · intro w hSw; (try dsimp only at hSw); go_simp; try with_reducible rfl
        try simp only [put_y]
        try simp only [Act.put]
        try simp only [put_z]
        refine wpAnyH_take (i := 3) (v := ?_) rfl (by kernel_rfl) (by kernel_rfl) (by kernel_rfl) (fun _ _ _ h => h) (Or.inl ⟨by rfl, ?_⟩) (by assumption) ?_
        rotate_left
        · intro w hSw; (try dsimp only at hSw); go_simp; try with_reducible rfl
        try simp only [put_y]
        try simp only [Act.put]
        try simp only [put_z]
        refine wpAnyH_take (i := 4) (v := ?_) rfl (by kernel_rfl) (by kernel_rfl) (by kernel_rfl) (fun _ _ _ h => h) (Or.inl ⟨by rfl, ?_⟩) (by assumption) ?_
        rotate_left
        · intro w hSw; (try dsimp only at hSw); go_simp; try with_reducible rfl
        try simp only [put_y]
        try simp only [Act.put]
        try simp only [put_z]
        refine wpAnyH_take (i := 5) (v := ?_) rfl (by kernel_rfl) (by kernel_rfl) (by kernel_rfl) (fun _ _ _ h => h) (Or.inl ⟨by rfl, ?_⟩) (by assumption) ?_
        rotate_left
        · intro w hSw; (try dsimp only at hSw); go_simp; try with_reducible rfl
        try simp only [put_y]
        try simp only [Act.put]
        try simp only [put_z]
        refine wpAnyH_take (i := 6) (v := ?_) rfl (by kernel_rfl) (by kernel_rfl) (by kernel_rfl) (fun _ _ _ h => h) (Or.inl ⟨by rfl, ?_⟩) (by assumption) ?_
        rotate_left
        · intro w hSw; (try dsimp only at hSw); go_simp; try with_reducible rfl
        try simp only [put_y]
        try simp only [Act.put]
        try simp only [put_z]
        refine wpAnyH_take (i := 7) (v := ?_) rfl (by kernel_rfl) (by kernel_rfl) (by kernel_rfl) (fun _ _ _ h => h) (Or.inl ⟨by rfl, ?_⟩) (by assumption) ?_
        rotate_left
        · intro w hSw; (try dsimp only at hSw); go_simp; try with_reducible rfl
        try simp only [put_y]
        try simp only [Act.put]
        try simp only [put_z]
        refine wpAnyH_take (i := 8) (v := ?_) rfl (by kernel_rfl) (by kernel_rfl) (by kernel_rfl) (fun _ _ _ h => h) (Or.inl ⟨by rfl, ?_⟩) (by assumption) ?_
        rotate_left
        · intro w hSw; (try dsimp only at hSw); go_simp; try with_reducible rfl
        try simp only [put_y]
        try simp only [Act.put]
        try simp only [put_z]
        refine wpAnyH_take (i := 9) (v := ?_) rfl (by kernel_rfl) (by kernel_rfl) (by kernel_rfl) (fun _ _ _ h => h) (Or.inl ⟨by rfl, ?_⟩) (by assumption) ?_
        rotate_left
        · intro w hSw; (try dsimp only at hSw); go_simp; try with_reducible rfl
        try simp only [put_y]
        try simp only [Act.put]
        try simp only [put_z]
        refine wpAnyH_take (i := 10) (v := ?_) rfl (by kernel_rfl) (by kernel_rfl) (by kernel_rfl) (fun _ _ _ h => h) (Or.inl ⟨by rfl, ?_⟩) (by assumption) ?_
        rotate_left
        · intro w hSw; (try dsimp only at hSw); go_simp; try with_reducible rfl
        try simp only [put_y]
        try simp only [Act.put]
        try simp only [put_z]
        refine wpAnyH_take (i := 11) (v := ?_) rfl (by kernel_rfl) (by kernel_rfl) (by kernel_rfl) (fun _ _ _ h => h) (Or.inl ⟨by rfl, ?_⟩) (by assumption) ?_
        rotate_left
        · intro w hSw; (try dsimp only at hSw); go_simp; try with_reducible rfl
        try simp only [put_y]
        try simp only [Act.put]
        try simp only [put_z]
        refine wpAnyH_done (by kernel_rfl) ?_ _
        have HOL : Hid (∀ j k : Nat, ∀ hj : j < l.length, l[j] = (k : Int) → ckids G.c (G.L.getD k nd0).kids = ckids G.c nd.kids → (∀ q (h : q < l.length), q < j → ckids G.c (G.L.getD (l[q]).toNat nd0).kids ≠ ckids G.c nd.kids) → olderI G nd = (k : Int)) := by
          have h0 := Hl.out
          have hnd := Hnd.out
          subst h0
          subst hnd
          intro j k hj e1 e2 e3
          unfold olderI
          rw [older_at hj e1 e2 e3]
        have HNO : Hid ((∀ q (h : q < l.length), ckids G.c (G.L.getD (l[q]).toNat nd0).kids ≠ ckids G.c nd.kids) → olderI G nd = -1) := by
          have h0 := Hl.out
          have hnd := Hnd.out
          subst h0
          subst hnd
          intro e3
          unfold olderI
          rw [older_no e3]
        have HAT : Hid (∀ j, ∀ hj : j < l.length, ∃ k : Nat, l[j] = (k : Int) ∧ k < G.L.length) := by
          have h0 := Hl.out
          subst h0
          intro j hj
          obtain ⟨k, e1, e2, _⟩ := opL_at hj
          exact ⟨k, e1, e2⟩
        have hKK : nd.kids = kids := by rw [← Hnd.out]
        have hKO : okKids G.L.length kids = true := by rw [← hKK]; exact ho2.2.2
        have HKO := Lib.hid hKO
        clear s4 s1 s2 la hKO
        go_upto_block 0 with fail
        go_cut [9] (fun s wx => s = .int .i64 (olderI G nd) ∧ Upd Non wa wx)
        case first =>
          go_wp2_with fail
          go_loopg [9, 11, 68] l.length (fun g v _ i wr => ∃ j : Nat, Hid (g = l.length - j) ∧ j ≤ l.length ∧ i = .int .i64 j ∧ v = .int .i64 (-1) ∧ Hid (∀ q (h : q < l.length), q < j → ckids G.c (G.L.getD (l[q]).toNat nd0).kids ≠ ckids G.c nd.kids) ∧ Upd Non wa wr)
          case atStart => exact ⟨0, rfl, by omega, rfl, rfl, fun q _ h => by omega, Upd.refl.drew⟩
          case round =>
            obtain ⟨j, Hg, hj, rfl, rfl, HQ, hu⟩ := hrel
            by_cases hlt : j < l.length
            · obtain ⟨k, ek, hkn⟩ := HAT.out j hlt
              have EK := Lib.hid ek
              obtain ⟨ob, oo, rfl, _, hob, hoj⟩ := (hOI.upd hu (fun _ _ _ f => f)).at_ hlt
              rw [ek] at hoj
              have huW := huaW.then_non hu
              have hMr := HM.out.non huW
              obtain ⟨lb, lo, ef, _, hlb, n1, n2, KB, kd, n3, hkd, hkj⟩ := hMr.lv.at_ hkn
              obtain ⟨g0, g1, g2, g3⟩ := SA wr huW
              rw [ef] at g0
              have okk := okKids_mono (HG.out.wf.kids k hkn) (show k ≤ G.L.length by omega)
              have hkl2 := HG.out.klen hkn
              have HGD : Hid ((G.L.getD k nd0).kids = G.L[k].kids) := by show _ = _; rw [getD_of hkn]
              obtain ⟨o2, e1⟩ : ∃ o2, G.L[k].op = o2 := ⟨_, rfl⟩
              obtain ⟨m2, e2⟩ : ∃ m2, G.L[k].imm = m2 := ⟨_, rfl⟩
              obtain ⟨kk, e3⟩ : ∃ kk, G.L[k].kids = kk := ⟨_, rfl⟩
              rw [e1] at n1
              rw [e2] at n2
              rw [e3] at n3 hkd hkj okk hkl2 HGD
              have CC := Lib.hid (gCongruent_c wr.drew ρ gb a G (hMr.non Upd.refl.drew) o2 m2 op imm kk kids KB KA kd kc _ _ (hkj.upd (Upd.refl.drew (S := Non)) (fun _ _ _ f => f)) ((hk1.upd huW (fun _ _ _ f => f)).upd (Upd.refl.drew (S := Non)) (fun _ _ _ f => f)) (by omega) okk HKO.out)
              obtain ⟨bt, Hbt⟩ := nm (decide (ckids G.c kk = ckids G.c kids))
              rw [Hbt.out] at CC
              unfold gp at CC
              have HOLj : Hid (bt = true → olderI G nd = (k : Int)) := fun hb => HOL.out j k hlt EK.out (by rw [HGD.out, hKK]; rw [← Hbt.out] at hb; exact of_decide_eq_true hb) HQ.out
              have HQj : Hid (bt = false → ∀ q (h : q < l.length), q < j + 1 → ckids G.c (G.L.getD (l[q]).toNat nd0).kids ≠ ckids G.c nd.kids) := fun hb q hq hq2 => by
                by_cases e : q = j
                · subst e
                  rw [EK.out]
                  show ckids G.c (G.L.getD k nd0).kids ≠ _
                  rw [HGD.out, hKK]
                  rw [← Hbt.out] at hb
                  exact of_decide_eq_false hb
                · exact HQ.out q hq (by omega)
              have i0 : (0 : Int) ≤ (j : Int) := by omega
              have i1 : (j : Int) < (l.length : Int) := by omega
              have i2 : (0 : Int) ≤ (k : Int) := by omega
              have i3 : (k : Int) < (n : Int) := by have := Hn.out; omega
              have u1 : wr.drew.cell? ⟨gb, 0, none⟩ = some (.slice (some ⟨lb, lo, none⟩) n a.lc) := g0
              have u2 : wr.drew.cell? ⟨lb, lo + k * 3, none⟩ = some (.int .i64 o2) := n1
              have u3 : wr.drew.cell? ⟨lb, lo + k * 3 + 1, none⟩ = some (.int .i64 m2) := n2
              have u4 : wr.drew.cell? ⟨lb, lo + k * 3 + 2, none⟩ = some (.slice KB kk.length kd) := n3
              have u5 : wr.drew.cell? ⟨w.heap.size, 0, none⟩ = some (.int .i64 op) := g1
              have u6 : wr.drew.cell? ⟨w.heap.size, 1, none⟩ = some (.int .i64 imm) := g2
              have u7 : wr.drew.cell? ⟨w.heap.size, 2, none⟩ = some (.slice KA kids.length kc) := g3
              clear ek ef e1 e2 e3 Hbt
              go_wp2_with fail
              refine wp_region_held_drew (S := fun w' => w'.cell? ⟨gb, 0, none⟩ = some (.slice (some ⟨lb, lo, none⟩) n a.lc) ∧ w'.cell? ⟨lb, lo + k * 3, none⟩ = some (.int .i64 o2) ∧ w'.cell? ⟨lb, lo + k * 3 + 1, none⟩ = some (.int .i64 m2) ∧ w'.cell? ⟨lb, lo + k * 3 + 2, none⟩ = some (.slice KB kk.length kd) ∧ w'.cell? ⟨w.heap.size, 0, none⟩ = some (.int .i64 op) ∧ w'.cell? ⟨w.heap.size, 1, none⟩ = some (.int .i64 imm) ∧ w'.cell? ⟨w.heap.size, 2, none⟩ = some (.slice KA kids.length kc)) (by kernel_rfl) ⟨u1, u2, u3, u4, u5, u6, u7⟩ (fun hHeld => ?_)
              refine wpAnyH_take (i := 0) (v := ?_) rfl (by kernel_rfl) (by kernel_rfl) (by kernel_rfl) (fun _ _ _ h => h) (Or.inl ⟨by rfl, ?_⟩) (by assumption) ?_
              rotate_left
              · intro w hSw; (try dsimp only at hSw); go_simp; try with_reducible rfl
              try simp only [put_y]
              try simp only [Act.put]
              try simp only [put_z]
              refine wpAnyH_take (i := 1) (v := ?_) rfl (by kernel_rfl) (by kernel_rfl) (by kernel_rfl) (fun _ _ _ h => h) (Or.inl ⟨by rfl, ?_⟩) (by assumption) ?_
              rotate_left
              · intro w hSw; (try dsimp only at hSw); go_simp; try with_reducible rfl
              try simp only [put_y]
              try simp only [Act.put]
              try simp only [put_z]
              refine wpAnyH_take (i := 2) (v := ?_) rfl (by kernel_rfl) (by kernel_rfl) (by kernel_rfl) (fun _ _ _ h => h) (Or.inl ⟨by rfl, ?_⟩) (by assumption) ?_
              rotate_left
              · intro w hSw; (try dsimp only at hSw); go_simp; try with_reducible rfl
              try simp only [put_y]
              try simp only [Act.put]
              try simp only [put_z]
              refine wpAnyH_take (i := 3) (v := ?_) rfl (by kernel_rfl) (by kernel_rfl) (by kernel_rfl) (fun _ _ _ h => h) (Or.inl ⟨by rfl, ?_⟩) (by assumption) ?_
              rotate_left
              · intro w hSw; (try dsimp only at hSw); go_simp; try with_reducible rfl
              try simp only [put_y]
              try simp only [Act.put]
              try simp only [put_z]
              refine wpAnyH_take (i := 4) (v := ?_) rfl (by kernel_rfl) (by kernel_rfl) (by kernel_rfl) (fun _ _ _ h => h) (Or.inl ⟨by rfl, ?_⟩) (by assumption) ?_
              rotate_left
              · intro w hSw; (try dsimp only at hSw); go_simp; try with_reducible rfl
              try simp only [put_y]
              try simp only [Act.put]
              try simp only [put_z]
              refine wpAnyH_take (i := 5) (v := ?_) rfl (by kernel_rfl) (by kernel_rfl) (by kernel_rfl) (fun _ _ _ h => h) (Or.inl ⟨by rfl, ?_⟩) (by assumption) ?_
              rotate_left
              · intro w hSw; (try dsimp only at hSw); go_simp; try with_reducible rfl
              try simp only [put_y]
              try simp only [Act.put]
              try simp only [put_z]
              refine wpAnyH_take (i := 6) (v := ?_) rfl (by kernel_rfl) (by kernel_rfl) (by kernel_rfl) (fun _ _ _ h => h) (Or.inl ⟨by rfl, ?_⟩) (by assumption) ?_
              rotate_left
              · intro w hSw; (try dsimp only at hSw); go_simp; try with_reducible rfl
              try simp only [put_y]
              try simp only [Act.put]
              try simp only [put_z]
              refine wpAnyH_take (i := 7) (v := ?_) rfl (by kernel_rfl) (by kernel_rfl) (by kernel_rfl) (fun _ _ _ h => h) (Or.inl ⟨by rfl, ?_⟩) (by assumption) ?_
              rotate_left
              · intro w hSw; (try dsimp only at hSw); go_simp; try with_reducible rfl
              try simp only [put_y]
              try simp only [Act.put]
              try simp only [put_z]
              refine wpAnyH_take (i := 8) (v := ?_) rfl (by kernel_rfl) (by kernel_rfl) (by kernel_rfl) (fun _ _ _ h => h) (Or.inl ⟨by rfl, ?_⟩) (by assumption) ?_
              rotate_left
              · intro w hSw; (try dsimp only at hSw); go_simp; try with_reducible rfl
              try simp only [put_y]
              try simp only [Act.put]
              try simp only [put_z]
              refine wpAnyH_ready (rs := [9]) (by kernel_rfl) (by simp) ?_
              refine AllReadyH.cons rfl (fun K hK => ?_) AllReadyH.nil
              go_simp
              refine CC.out.mono ?_
              rintro e wz ⟨rfl, huz'⟩
              have huz : Upd Non wr wz := Upd.refl.drew.then_non huz'
              have hU9 := hu.then_non huz
              go_wp2_with fail
              refine hK.out _ _ ?_ (fun hHeld => ?_)
              · exact ⟨cell_upd g0 huz (fun f => f), cell_upd n1 huz (fun f => f), cell_upd n2 huz (fun f => f), cell_upd n3 huz (fun f => f), cell_upd g1 huz (fun f => f), cell_upd g2 huz (fun f => f), cell_upd g3 huz (fun f => f)⟩
              clear hK K
              try simp only [put_y]
              try simp only [Act.put]
              try simp only [put_z]
              refine wpAnyH_done (by kernel_rfl) ?_ _
              cases bt with
              | true =>
                have HO2 := Lib.hid (HOLj.out rfl)
                go_wp2_with fail
                go_meet
                exact ⟨by rw [HO2.out], hU9⟩
              | false =>
                have HQ2 := Lib.hid (HQj.out rfl)
                go_wp2_with fail
                go_roundg (l.length - (j + 1))
                case measure => rw [Hg.out]; omega
                case rel => exact ⟨j + 1, rfl, by omega, by go_num, rfl, HQ2, hU9⟩
            · obtain rfl : l.length = j := by omega
              have HO2 := Lib.hid (HNO.out (fun q h => HQ.out q h h))
              go_wp2_with fail
              go_meet
              exact ⟨by rw [HO2.out], hu⟩
        case rest =>
          obtain ⟨rfl, hux⟩ := hcut
          have huxW := huaW.then_non hux
          have hMx := HM.out.non huxW
          obtain ⟨g0, g1, g2, g3⟩ := SA wc huxW
          have hk33 : kids.length ≤ 33 := by rw [← hKK]; exact ho2.2.1
          have hx : sortsF (G.L ++ [⟨op, imm, kids⟩]) = sortsF G.L ++ [y] := by
            rw [sortsF_snoc, ← Hy.out, ← Hnd.out]; rfl
          have hix : idxF G.L (ndKey ⟨op, imm, kids⟩) = none := by rw [Hnd.out]; exact HSA.out
          have CI := Lib.hid (gInsert_c wc ρ gb a G hMx (by rw [Hn.out]; omega) HG.out.wf.named (HG.out.wf.out _ (Nat.le_refl _)) op imm kids KA kc (fun k => k < w.heap.size ∧ ρ k = .no) (hk1.upd huxW (fun _ _ _ f => f)) (fun k _ h => h.2) hk33 y hx hix)
          rw [Hn.out, Hnd.out] at CI
          unfold gp at CI
          have hUx := hU.then_non huxW
          have HWf : Hid (GWf (G.add nd)) := HG.out.addWf (by rw [← Hnd.out]; exact HOK.out) HZ.out HSA.out (by rw [Hn.out]; omega)
          have HAL : Hid ((G.add nd).L.length = n + 1) := by show _ = _; simp [EG.add, Hn.out]
          have HR : Hid (addRet G nd = .tuple #[.int .i64 (n : Int), .int .i64 0]) := by show _ = _; simp [addRet, addR, HZ.out, HSA.out, Hn.out, hbig]
          clear hx hix hKK hk33
          cases hol : olderOf G nd with
          | none =>
            have e9 : olderI G nd = -1 := by unfold olderI; rw [hol]
            have HGa : Hid (addG G nd = G.add nd) := by show _ = _; simp [addG, HZ.out, HSA.out, Hn.out, hbig, hol]
            rw [e9]
            clear e9 hol
            go_wp2_with fail
            refine CI.out.mono ?_
            rintro e wi ⟨rfl, ρ', a', hMi, hui, hei⟩
            go_wp2_with fail
            go_ret2
            exact ⟨by rw [HR.out]; rfl, by rw [HGa.out]; exact Next.after hUx ⟨ρ', a', hMi, hui, hei⟩⟩
          | some k =>
            have e9 : olderI G nd = (k : Int) := by unfold olderI; rw [hol]
            have HGa : Hid (addG G nd = (G.add nd).merge (cgStep k n)) := by show _ = _; simp [addG, HZ.out, HSA.out, Hn.out, hbig, hol]
            have hkn := (older_some hol).1
            have hck := HG.out.wf.named.le k hkn
            have hcn := HG.out.wf.out _ (Nat.le_refl G.L.length)
            rw [Hn.out] at hkn hcn
            have hTa : (G.add nd).T.length = G.T.length := rfl
            have CM := Lib.hid (fun (W2 : World) (ρ' : Nat → Role) (a' : GA) (hM2 : GM W2 ρ' gb a' (G.add nd)) => gMerge_c W2 ρ' gb a' (G.add nd) hM2 HWf.out.wf.small (by omega) HWf.out.wf.named (cgStep k n) k n rfl rfl (by rw [HAL.out]; omega) (by rw [HAL.out]; omega) (show G.c k ≠ G.c n by omega) none none 0 0 Non .nil .nil (fun _ _ f => f.elim) (by simp [cgStep]) (by simp [cgStep]))
            unfold gp cgStep at CM
            dsimp only [List.length_nil] at CM
            rw [e9]
            clear e9 hol hcn hck hTa
            go_wp2_with fail
            refine CI.out.mono ?_
            rintro e wi ⟨rfl, ρ', a', hMi, hui, hei⟩
            go_wp2_with fail
            refine (CM.out wi ρ' a' hMi).mono ?_
            rintro e wj ⟨rfl, hN⟩
            go_wp2_with fail
            go_ret2
            exact ⟨by rw [HR.out]; rfl, by rw [HGa.out]; exact Next.after hUx (Next.trans hui hei hN)⟩
end Go.Proofs.Ytigambcefdeaoaa
