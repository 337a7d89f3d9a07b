/-
  EgraphNoChange, called at a list of integers and three integers, returns true and turns nothing old.
-/
import Derived.Test.YtigambcefdeaoaaAddA
import Derived.Test.YtigambcefdeaoaaSameC
import Derived.Test.YtigambcefdeaoaaULaw
import Derived.Test.YtigambcefdeaoaaEEx
import Derived.IntWalk
namespace Go.Proofs.Ytigambcefdeaoaa
open Go.RowKit

theorem fAdd_c (w : World) (P : Nat → Prop) (gb : Nat) (G : EG) (h : FG P w gb G) (hg : GWf G) (hT : G.T.length ≤ 900000000) (op imm : Int) (kids : List Int) (KA : Option Addr) (kc : Nat) (hk : Ints w P KA kids) (hkc : kids.length ≤ kc) (hok : NdOk ⟨op, imm, kids⟩) (hkl : kids.length ≤ 100000000000) :
    Calls Try.prog 22 #[gp gb, .agg #[.int .i64 op, .int .i64 imm, .slice KA kids.length kc]] w fun e w' => e = .returned (addRet G ⟨op, imm, kids⟩) ∧ FG P w' gb (addG G ⟨op, imm, kids⟩) ∧ Upd (Out P) w w' := by
  obtain ⟨ρ, a, hM, hP⟩ := h
  exact (gAdd_c w ρ gb a G hM hg hT op imm kids KA kc P hk hkc (fun k _ hk => (hP k hk).2) hok hkl).mono fun e w' ⟨he, hn⟩ => ⟨he, FG.next hP hn⟩

theorem FG.lit {P : Nat → Prop} {w : World} {gb : Nat} {G : EG} (h : FG P w gb G) (t : TypeId) (xs : List Int) {cs : Array Value} (e : cs = (xs.map fun x => Value.int .i64 x).toArray) :
    FG (fun k => P k ∨ k = w.heap.size) (w.alloc (.cells cs t)) gb G ∧ Ints (w.alloc (.cells cs t)) (fun k => P k ∨ k = w.heap.size) (some ⟨w.heap.size, 0, none⟩) xs := by
  subst e
  refine ⟨(h.grow (Upd.refl.alloc _ (S := Non))).mono (fun k hk => hk.imp id (fun e => by subst e; simp)), ?_⟩
  have := Sl.of_blk (F := fun k => P k ∨ k = w.heap.size) (.inr rfl) (Blk.new w t (xs.map fun x => Value.int .i64 x).toArray) xs.length
  unfold Ints
  rw [List.take_of_length_le (by simp)] at this
  simpa using this
/-- Add of a node whose operands were just laid down. -/
theorem fAddLit_c (w : World) (P : Nat → Prop) (gb : Nat) (G : EG) (h : FG P w gb G) (hg : GWf G) (hT : G.T.length ≤ 900000000) (op imm x : Int) (t : TypeId) (hok : NdOk ⟨op, imm, [x]⟩) :
    Calls Try.prog 22 #[gp gb, .agg #[.int .i64 op, .int .i64 imm, .slice (some ⟨w.heap.size, 0, none⟩) 1 1]] (w.alloc (.cells #[.int .i64 x] t)) fun e w' => e = .returned (addRet G ⟨op, imm, [x]⟩) ∧ FG P w' gb (addG G ⟨op, imm, [x]⟩) ∧ Upd (Out P) w w' := by
  obtain ⟨h1, h2⟩ := h.lit t [x] (cs := #[.int .i64 x]) rfl
  exact (fAdd_c _ _ gb G h1 hg hT op imm [x] _ 1 h2 (by simp) hok (by simp)).mono fun e w' ⟨he, hf, hu⟩ =>
    ⟨he, hf.mono (fun k hk => .inl hk), (Upd.refl.alloc _ (S := Out P)).trans (hu.mono (T := Out P) (fun k _ hk hp => hk (.inl hp))) (fun _ _ h => h)⟩

theorem kidsOk_pre {L : List Nd} {i : Nat} {kids : List Int} (hi : i ≤ L.length) (hk : okKids i kids = true) : kidsOk (sortsF L) kids = kidsOk (sortsTo L i) kids ∧ kidSorts (sortsF L) kids = kidSorts (sortsTo L i) kids := by
  have hp : ∀ q, q ∈ kids → (0 ≤ q ∧ q < i) ∧ (sortsF L).getD q.toNat 0 = (sortsTo L i).getD q.toNat 0 := fun q hq => by
    simp only [okKids, List.all_eq_true, Bool.and_eq_true, decide_eq_true_eq] at hk
    have := hk q hq
    refine ⟨this, ?_⟩
    unfold sortsF
    exact sortsTo_pre L hi (by omega)
  constructor
  · unfold kidsOk
    rw [Bool.eq_iff_iff, List.all_eq_true, List.all_eq_true]
    constructor
    · intro h q hq
      have := kidOk_iff.1 (h q hq)
      rw [kidOk_iff]
      obtain ⟨a, b⟩ := hp q hq
      rw [sortsTo_len, ← b]
      exact ⟨a.1, by omega, this.2.2⟩
    · intro h q hq
      have := kidOk_iff.1 (h q hq)
      rw [kidOk_iff]
      obtain ⟨a, b⟩ := hp q hq
      rw [sortsF_len, b]
      exact ⟨a.1, by omega, this.2.2⟩
  · unfold kidSorts
    apply List.map_congr_left
    intro q hq
    exact (hp q hq).2
theorem addSort_in {G : EG} (hg : GWf G) {i : Nat} (hi : i < G.L.length) : addSort G G.L[i] = (sortsF G.L).getD i 0 := by
  rw [sorts_step hi]
  unfold addSort sortsStep
  obtain ⟨h1, h2⟩ := kidsOk_pre (show i ≤ G.L.length by omega) (hg.wf.kids i hi)
  by_cases hk : kidsOk (sortsTo G.L i) G.L[i].kids = true
  · rw [if_pos hk, if_pos (h1.trans hk), h2]
    apply nodeSort_congr
    intro q hq
    have := okKids_get (hg.wf.kids i hi) (i := 0) (by rw [hq]; simp)
    simp only [hq, List.getElem_cons_zero] at this
    rw [List.getD, List.getElem?_append_left (by omega), ← List.getD]
  · rw [if_neg hk, if_neg (by rw [h1]; exact hk)]
theorem sameAt_in {G : EG} (hg : GWf G) {i : Nat} (hi : i < G.L.length) : sameAt G G.L[i] = some i := by
  unfold sameAt idxF
  rw [find_range]
  refine ⟨hi, by rw [getD_of hi]; simp, fun k hk => ?_⟩
  rw [getD_of (by omega), decide_eq_false_iff_not]
  intro e
  exact hg.wf.nodup k i (by omega) hi hk (ndKey_inj hg.srt hg.wf.ok hg.wf.small (by omega) hi e)
theorem add_in {G : EG} (hg : GWf G) {i : Nat} (hi : i < G.L.length) : addG G G.L[i] = G ∧ addRet G G.L[i] = .tuple #[.int .i64 (i : Int), .int .i64 0] := by
  have h1 : addSort G G.L[i] ≠ 0 := by rw [addSort_in hg hi]; exact hg.srt i hi
  have h2 := sameAt_in hg hi
  constructor
  · unfold addG; rw [if_neg h1, h2]
  · unfold addRet addR; rw [if_neg h1, h2]
theorem add_bad {G : EG} {nd : Nd} (h : addSort G nd = 0) : addG G nd = G ∧ addRet G nd = .tuple #[.int .i64 0, .int .i64 1] := by
  constructor
  · unfold addG; rw [if_pos h]
  · unfold addRet addR; rw [if_pos h]
theorem sort3 {L : List Nd} (h : ∃ r, L = baseN ++ r) : ∀ i, i < 3 → (sortsF L).getD i 0 = ([1, 1, 2] : List Int).getD i 0 := by
  obtain ⟨r, rfl⟩ := h
  have h3 : (sortsF (baseN ++ r)).take 3 = [1, 1, 2] := by
    unfold sortsF
    rw [sortsTo_take _ 3 _ (by simp [baseN])]
    exact sorts_base r
  intro i hi
  rw [← h3]
  simp [List.getD, hi]
theorem add_neg2 {L : List Nd} (h : ∃ r, L = baseN ++ r) : addSort (newG L) ⟨20, 0, [2]⟩ = 0 := by
  have h2 := sort3 h 2 (by omega)
  unfold addSort sortsStep
  split
  · have e : kidSorts (sortsF (newG L).L) [2] = [2] := by
      unfold kidSorts
      simp only [List.map_cons, List.map_nil]
      rw [show ((2 : Int)).toNat = 2 from rfl]
      show [(sortsF L).getD 2 0] = [2]
      rw [h2]; rfl
    show nodeSortF _ 20 0 [2] (kidSorts (sortsF (newG L).L) [2]) = 0
    rw [e]
    simp [nodeSortF, badNode, arityF, validImmF, maxImmF, goodSortF, sortIfF, allOne]
  · rfl
theorem add_negN (L : List Nd) : addSort (newG L) ⟨20, 0, [(L.length : Int)]⟩ = 0 := by
  unfold addSort sortsStep
  rw [if_neg]
  intro h
  have := kidsOk_mem h (L.length : Int) (by simp)
  rw [sortsF_len] at this
  simp [newG] at this
theorem uni_bad {G : EG} {s : Stp} (h : uniOk G s = false) : uniG G s = G ∧ uniRet G s = .tuple #[.bool false, .int .i64 1] := by
  constructor
  · unfold uniG uniNew; rw [h]; rfl
  · unfold uniRet uniNew; rw [h]; rfl
theorem uni_same {G : EG} {s : Stp} (h : uniOk G s = true) (he : G.c s.l.toNat = G.c s.r.toNat) : uniG G s = G ∧ uniRet G s = .tuple #[.bool false, .int .i64 0] := by
  constructor
  · unfold uniG uniNew; rw [h, he]; simp
  · unfold uniRet uniNew; rw [h, he]; simp

set_option maxRecDepth 100000 in
set_option maxHeartbeats 4000000 in
theorem eNoChange_c (w : World) (F : Nat → Prop) (LA : Option Addr) (lc : Nat) (l : List Int) (a b why : Int) (hl : Ints w F LA l) (hli : ∀ x ∈ l, I64 x) (hll : l.length ≤ 1000000000000000) :
    Calls Try.prog 6 #[.slice LA l.length lc, .int .i64 a, .int .i64 b, .int .i64 why] w fun e w' => e = .returned (.bool true) ∧ Upd Non w w' := by
  have C1 := Lib.hid (nodes_c w F LA lc l false hl hli hll)
  have hgw := nodesF_wf false hli
  have hlen := nodesF_len false l
  have hsm := nodesTo_small false l 14
  have hpos := (nodesF_good false l hli).pos
  have hGN := nodesF_goodN false l
  have hok := (nodesF_good false l hli).ok
  obtain ⟨L, HL⟩ := nm (nodesF false l)
  rw [HL.out] at C1 hgw hlen hpos hGN hok
  rw [show nodesTo false l 14 = L from HL.out] at hsm
  have HW := Lib.hid hgw
  have HOK := Lib.hid hok
  have HGN := Lib.hid hGN
  have HSM := Lib.hid hsm
  clear hgw hok hGN hsm hli
  go_enter Try.func6, Try.ntmps6
  go_wp2_with fail
  refine C1.out.mono ?_
  rintro e w1 ⟨A, c, rfl, hno, hA, hu1⟩
  have hV := hno.view (F := fun _ => True) (fun _ _ => trivial) (fun _ _ _ => trivial)
  obtain ⟨_, cs, ho, _⟩ := hno
  have hcap := ho.le
  clear ho
  have C2 := Lib.hid (fNew_c w1 _ A c L hV hcap (by omega) HOK.out (fun nd h => by have := HSM.out nd h; omega) HGN.out.srt HGN.out.dif)
  unfold gp at C2
  go_wp2_with fail
  refine C2.out.mono ?_
  rintro e w2 ⟨gb, rfl, hg1, hu2⟩
  have hs1 := hu1.size
  have hs2 := hu2.size
  have hF0 : FG (· < w.heap.size) w2 gb (newG L) := hg1.mono (fun k hk => by show k < w1.heap.size; have : k < w.heap.size := hk; omega)
  have hU2 := hu1.then_non hu2
  have C3 := Lib.hid (fNodes_c w2 _ gb _ hF0 HW.out)
  rw [show (newG L).L = L from rfl] at C3
  unfold gp at C3
  clear hg1 C1 C2 hV hA
  go_wp2_with fail
  refine C3.out.mono ?_
  rintro e w3 ⟨A3, c3, rfl, hno3, hA3, hu3⟩
  have C4 := Lib.hid (fSteps_c w3 _ gb _ (hF0.non hu3) (by simp [newG]) (by simp [newG]))
  rw [show (newG L).T = [] from rfl] at C4
  unfold gp at C4
  go_wp2_with fail
  refine C4.out.mono ?_
  rintro e w4 ⟨A4, c4, rfl, _, hu4⟩
  have hF4 := hF0.grow (hu3.then_non hu4)
  have hU4 := (hU2.then_non hu3).then_non hu4
  obtain ⟨P, HP⟩ := nm (fun k => k < w.heap.size ∨ (w2.heap.size ≤ k ∧ k < w4.heap.size))
  have hX4 : NodesV w4 P A3 L := by
    rw [← HP.out]
    have := (hno3.view (F := fun k => w2.heap.size ≤ k) hA3 (fun _ _ h => h)).mono (G := fun k => k < w.heap.size ∨ (w2.heap.size ≤ k ∧ k < w4.heap.size)) (fun k hk h => .inr ⟨h, by have := hu4.size; omega⟩)
    exact this.upd hu4 (fun _ _ _ f => f)
  have hF4 : FG P w4 gb (newG L) := by rw [← HP.out]; exact hF4
  have HPw : Hid (∀ i, i < w.heap.size → P i) := fun i hi => by rw [← HP.out]; exact .inl hi
  have p0 := Int.emod_nonneg a (show ((L.length : Nat) : Int) ≠ 0 by omega)
  have p1 := Int.emod_lt_of_pos a (show (0 : Int) < (L.length : Int) by omega)
  have CPA := Lib.hid (pick_c a L.length w4 (by omega) (by omega))
  obtain ⟨pi, Hpi⟩ := Int.eq_ofNat_of_zero_le p0
  rw [Hpi] at p1 CPA
  have hpi : pi < L.length := by omega
  have hpi2 : (pi : Int) < (L.length : Int) := by omega
  have hpi0 : (0 : Int) ≤ (pi : Int) := by omega
  have hL3 : (L.length : Int) < 3 → False := by omega
  clear C3 C4 hno3 hA3 Hpi p0 p1 HP
  go_wp2_with fail
  refine CPA.out.mono ?_
  rintro e w4' ⟨rfl, rfl⟩
  obtain ⟨lb, lo, rfl, hPb, hlb, n1, n2, KA, kc, n3, hkc, hki⟩ := hX4.at_ hpi
  have hokn := HOK.out _ (List.getElem_mem hpi)
  have hkln := HSM.out _ (List.getElem_mem hpi)
  obtain ⟨q1, q2⟩ : addG (newG L) L[pi] = newG L ∧ addRet (newG L) L[pi] = .tuple #[.int .i64 (pi : Int), .int .i64 0] := add_in HW.out (i := pi) hpi
  generalize L[pi] = nd at *
  obtain ⟨op, imm, kids⟩ := nd
  dsimp only at n1 n2 n3 hkc hki hkln
  have C5 := Lib.hid (fAdd_c w4 P gb (newG L) hF4 HW.out (by simp [newG]) op imm kids KA kc hki hkc hokn (by omega))
  rw [q1, q2] at C5
  unfold gp at C5
  clear CPA q1 q2 hokn
  go_wp2_with fail
  refine C5.out.mono ?_
  rintro e w5 ⟨rfl, hF5, hu5⟩
  have hX5 := hX4.upd hu5 (fun k _ hk h => h hk)
  have hU5 := hU4.out_trans hu5 HPw.out
  have hx2 : NdOk ⟨20, 0, [2]⟩ := by simp [NdOk, I64]
  have hxL : NdOk ⟨20, 0, [(L.length : Int)]⟩ := by simp [NdOk, I64]
  obtain ⟨r1, r2⟩ := add_bad (add_neg2 HGN.out.base)
  obtain ⟨r3, r4⟩ := add_bad (add_negN L)
  have C6 := Lib.hid (fAddLit_c w5 P gb (newG L) hF5 HW.out (by simp [newG]) 20 0 2 3 hx2)
  rw [r1, r2] at C6
  unfold gp at C6
  clear C5
  go_wp2_with fail
  refine C6.out.mono ?_
  rintro e w6 ⟨rfl, hF6, hu6⟩
  have hX6 := hX5.upd hu6 (fun k _ hk h => h hk)
  have hU6 := hU5.out_trans hu6 HPw.out
  have C7 := Lib.hid (fAddLit_c w6 P gb (newG L) hF6 HW.out (by simp [newG]) 20 0 (L.length : Int) 3 hxL)
  rw [r3, r4] at C7
  unfold gp at C7
  clear C6 r1 r2 r3 r4
  go_wp2_with fail
  refine C7.out.mono ?_
  rintro e w7 ⟨rfl, hF7, hu7⟩
  have hX7 := hX6.upd hu7 (fun k _ hk h => h hk)
  have hU7 := hU6.out_trans hu7 HPw.out
  obtain ⟨v1, v2⟩ := uni_bad (G := newG L) (s := ⟨0, 2, why, [], []⟩) (by
    simp only [uniOk, decide_eq_false_iff_not]
    rintro ⟨_, _, _, _, h⟩
    have e1 := sort3 HGN.out.base 0 (by omega)
    have e2 := sort3 HGN.out.base 2 (by omega)
    have h' : (sortsF L).getD 0 0 = (sortsF L).getD 2 0 := h
    rw [e1, e2] at h'
    simp at h')
  have C8 := Lib.hid (fUnion_c w7 P gb (newG L) hF7 HW.out (by simp [newG]) ⟨0, 2, why, [], []⟩ none none 0 0 .nil .nil (by simp) (by simp))
  rw [v1, v2] at C8
  unfold gp stpV at C8
  dsimp only [List.length_nil] at C8
  clear C7 v1 v2
  go_wp2_with fail
  refine C8.out.mono ?_
  rintro e w8 ⟨rfl, hF8, hu8⟩
  have hX8 := hX7.upd hu8 (fun k _ hk h => h hk)
  have hU8 := hU7.out_trans hu8 HPw.out
  have b0 := Int.emod_nonneg b (show (5 : Int) ≠ 0 by omega)
  have b1 := Int.emod_lt_of_pos b (show (0 : Int) < 5 by omega)
  have CPB := Lib.hid (pick_c b 5 w8 (by omega) (by omega))
  generalize b % 5 = b5 at *
  obtain ⟨v1, v2⟩ := uni_bad (G := newG L) (s := ⟨-1 - b5, 0, 0, [], []⟩) (by
    simp only [uniOk, decide_eq_false_iff_not]
    rintro ⟨h, _⟩
    omega)
  have C9 := Lib.hid (fUnion_c w8 P gb (newG L) hF8 HW.out (by simp [newG]) ⟨-1 - b5, 0, 0, [], []⟩ none none 0 0 .nil .nil (by simp) (by simp))
  rw [v1, v2] at C9
  unfold gp stpV at C9
  dsimp only [List.length_nil] at C9
  clear C8 v1 v2
  go_wp2_with fail
  refine CPB.out.mono ?_
  rintro e w8' ⟨rfl, rfl⟩
  go_wp2_with fail
  refine C9.out.mono ?_
  rintro e w9 ⟨rfl, hF9, hu9⟩
  have hX9 := hX8.upd hu9 (fun k _ hk h => h hk)
  have hU9 := hU8.out_trans hu9 HPw.out
  obtain ⟨v1, v2⟩ := uni_same (G := newG L) (s := ⟨(pi : Int), (pi : Int), why, [], []⟩) (by
    unfold uniOk
    exact decide_eq_true ⟨by dsimp only; omega, hpi2, by dsimp only; omega, hpi2, rfl⟩) rfl
  have C10 := Lib.hid (fUnion_c w9 P gb (newG L) hF9 HW.out (by simp [newG]) ⟨(pi : Int), (pi : Int), why, [], []⟩ none none 0 0 .nil .nil (by simp) (by simp))
  rw [v1, v2] at C10
  unfold gp stpV at C10
  dsimp only [List.length_nil] at C10
  clear C9 v1 v2 CPB
  go_wp2_with fail
  refine C10.out.mono ?_
  rintro e w10 ⟨rfl, hF10, hu10⟩
  have hX10 := hX9.upd hu10 (fun k _ hk h => h hk)
  have hU10 := hU9.out_trans hu10 HPw.out
  have C11 := Lib.hid (fNodes_c w10 P gb (newG L) hF10 HW.out)
  rw [show (newG L).L = L from rfl] at C11
  unfold gp at C11
  have t1 : ((pi : Int) == (pi : Int)) = true := by simp
  clear C10
  go_wp2_with fail
  refine C11.out.mono ?_
  rintro e w11 ⟨A11, c11, rfl, hno11, hA11, hu11⟩
  have hY11 := hno11.view (F := fun _ => True) (fun _ _ => trivial) (fun _ _ _ => trivial)
  have C12 := Lib.hid (sameNodes_c w11 (fun _ => True) P A11 (some ⟨lb, lo, none⟩) c11 c3 L hY11 (hX10.upd hu11 (fun _ _ _ f => f)) (by omega) (fun nd h => by have := HSM.out nd h; omega))
  go_wp2_with fail
  refine C12.out.mono ?_
  rintro e w12 ⟨rfl, hu12⟩
  have hF12 := (hF10.non hu11).non hu12
  have hU12 := (hU10.then_non hu11).then_non hu12
  have C13 := Lib.hid (fSteps_c w12 P gb _ hF12 (by simp [newG]) (by simp [newG]))
  rw [show (newG L).T = [] from rfl] at C13
  unfold gp at C13
  clear C11 C12
  go_wp2_with fail
  refine C13.out.mono ?_
  rintro e w13 ⟨A13, c13, rfl, _, hu13⟩
  have C14 := Lib.hid (sameSteps_c w13 (fun _ => True) (fun _ => True) A13 A4 c13 c4 [] (.inl rfl) (.inl rfl) (by simp) (by simp))
  go_wp2_with fail
  refine C14.out.mono ?_
  rintro e w14 ⟨rfl, hu14⟩
  have hU14 := (hU12.then_non hu13).then_non hu14
  clear C13 C14
  go_wp2_with fail
  refine (eExamples_c _).mono ?_
  rintro e w15 ⟨rfl, hu15⟩
  go_wp2_with fail
  go_ret
  exact ⟨rfl, hU14.then_non hu15⟩
end Go.Proofs.Ytigambcefdeaoaa
