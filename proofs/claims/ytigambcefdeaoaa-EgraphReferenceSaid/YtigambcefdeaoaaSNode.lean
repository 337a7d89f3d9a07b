/-
  What SameNode, contains, Next and of do.
-/
import Derived.Test.YtigambcefdeaoaaSorts
import Derived.StillTailTactics
namespace Go.Proofs.Ytigambcefdeaoaa
open Go.RowKit

def sameNd (a b : Nd) : Bool := decide (a.op = b.op ∧ a.imm = b.imm ∧ a.kids = b.kids)
theorem sameNd_iff {a b : Nd} : sameNd a b = true ↔ a = b := by
  unfold sameNd
  rw [decide_eq_true_eq]
  constructor
  · rintro ⟨h1, h2, h3⟩; cases a; cases b; simp_all
  · rintro rfl; exact ⟨rfl, rfl, rfl⟩

set_option maxRecDepth 100000 in
set_option maxHeartbeats 1000000 in
theorem sameNode_c (w : World) (F G : Nat → Prop) (a b : Nd) (KA KB : Option Addr) (ka kb : Nat) (hA : Ints w F KA a.kids) (hB : Ints w G KB b.kids) (hl : a.kids.length ≤ 1000000000000000) :
    Calls Try.prog 50 #[.agg #[.int .i64 a.op, .int .i64 a.imm, .slice KA a.kids.length ka], .agg #[.int .i64 b.op, .int .i64 b.imm, .slice KB b.kids.length kb]] w fun e w' =>
      e = .returned (.bool (sameNd a b)) ∧ Upd Non w w' := by
  by_cases h1 : a.op = b.op ∧ a.imm = b.imm ∧ a.kids.length = b.kids.length
  · obtain ⟨h1, h2, h3⟩ := h1
    have H1 := Lib.hid h1
    have H2 := Lib.hid h2
    have H3 := Lib.hid h3
    rw [← h1, ← h2, ← h3]
    obtain ⟨op, Hop⟩ : ∃ op, Hid (a.op = op) := nm _
    obtain ⟨imm, Him⟩ : ∃ imm, Hid (a.imm = imm) := nm _
    have HS : Hid (sameNd a b = decide (a.kids = b.kids)) := by show _ = _; unfold sameNd; simp [h1, h2]
    rw [Hop.out, Him.out]
    clear h1 h2 h3
    go_enter Try.func50, Try.ntmps50
    go_wp2_with fail
    go_loopg [5] a.kids.length (fun g' i wr => ∃ k : Nat, Hid (g' = a.kids.length - k) ∧ k ≤ a.kids.length ∧ i = .int .i64 k ∧ Hid (a.kids.take k = b.kids.take k) ∧ Upd Non w wr ∧
      Blk wr w.heap.size 24 #[.int .i64 op, .int .i64 imm, .slice KA a.kids.length ka] ∧ Blk wr (w.heap.size + 1) 24 #[.int .i64 op, .int .i64 imm, .slice KB a.kids.length kb])
    case atStart => exact ⟨0, rfl, by omega, rfl, rfl, (Upd.refl.alloc _).alloc _, (Blk.new _ _ _).alloc _, Blk.new' (by simp)⟩
    case round =>
      obtain ⟨k, Hg, hk, rfl, hp, hu, hb0, hb1⟩ := hrel
      have c0 := hb0.cell 2
      have c1 := hb1.cell 2
      by_cases hlt : k < a.kids.length
      · have hlt2 : k < b.kids.length := by rw [← H3.out]; exact hlt
        obtain ⟨ab, ao, rfl, _, _, ha1⟩ := (hA.upd hu (fun _ _ _ f => f)).at_ hlt
        obtain ⟨bb, bo, rfl, _, _, ha2⟩ := (hB.upd hu (fun _ _ _ f => f)).at_ hlt2
        have HT := Lib.hid (List.take_succ_eq_append_getElem hlt)
        have HT2 := Lib.hid (List.take_succ_eq_append_getElem hlt2)
        have HNE : Hid (a.kids[k] ≠ b.kids[k] → sameNd a b = false) := by
          intro h; rw [HS.out, decide_eq_false_iff_not]; intro e; exact h (List.getElem_of_eq e _)
        generalize a.kids[k] = p at *
        generalize b.kids[k] = q at *
        by_cases he : p = q
        · subst he
          go_wp2_with fail
          go_quiet (fail)
          go_wp2_with fail
          go_roundg (a.kids.length - (k + 1))
          case measure => rw [Hg.out]; omega
          case rel => exact ⟨k + 1, rfl, by omega, by go_num, by show _ = _; rw [HT.out, HT2.out, hp.out], hu.drewN _, hb0.drewN _, hb1.drewN _⟩
        · have HF := Lib.hid (HNE.out he)
          have d5 : (p != q) = true := by simpa using he
          clear he HNE
          go_wp2_with fail
          go_quiet (fail)
          go_wp2_with fail
          go_ret
          exact ⟨by rw [HF.out]; rfl, hu.drewN _⟩
      · obtain rfl : a.kids.length = k := by omega
        have HF : Hid (sameNd a b = true) := by
          have := hp.out
          rw [List.take_length, H3.out, List.take_length] at this
          show _ = _
          rw [HS.out, this]; simp
        go_wp2_with fail
        go_ret
        exact ⟨by rw [HF.out]; rfl, hu⟩
  · have HF : Hid (sameNd a b = false) := by
      show _ = _
      unfold sameNd
      rw [decide_eq_false_iff_not]
      rintro ⟨e1, e2, e3⟩
      exact h1 ⟨e1, e2, by rw [e3]⟩
    by_cases e1 : a.op = b.op
    · by_cases e2 : a.imm = b.imm
      · have e3 : ((a.kids.length : Int) != (b.kids.length : Int)) = true := by simp; omega
        rw [e1, e2]
        clear h1 e1 e2
        go_enter Try.func50, Try.ntmps50
        go_wp2_with fail
        go_ret
        exact ⟨by rw [HF.out]; rfl, (Upd.refl.alloc _).alloc _⟩
      · have e3 : (a.imm != b.imm) = true := by simpa using e2
        rw [e1]
        clear h1 e1 e2
        go_enter Try.func50, Try.ntmps50
        go_wp2_with fail
        go_ret
        exact ⟨by rw [HF.out]; rfl, (Upd.refl.alloc _).alloc _⟩
    · have e3 : (a.op != b.op) = true := by simpa using e1
      clear h1 e1
      go_enter Try.func50, Try.ntmps50
      go_wp2_with fail
      go_ret
      exact ⟨by rw [HF.out]; rfl, (Upd.refl.alloc _).alloc _⟩

set_option maxRecDepth 100000 in
set_option maxHeartbeats 1000000 in
theorem contains_c (w : World) (F G : Nat → Prop) (LA KA : Option Addr) (lc kc : Nat) (L : List Nd) (nd : Nd) (hL : NodesV w F LA L) (hK : Ints w G KA nd.kids) (hn : L.length ≤ 1000000000000) (hl : ∀ nd ∈ L, nd.kids.length ≤ 1000000000000000) :
    Calls Try.prog 46 #[.slice LA L.length lc, .agg #[.int .i64 nd.op, .int .i64 nd.imm, .slice KA nd.kids.length kc]] w fun e w' => e = .returned (.bool (L.any fun x => sameNd x nd)) ∧ Upd Non w w' := by
  have HLK := Lib.hid hl
  clear hl
  go_enter Try.func46, Try.ntmps46
  go_wp2_with fail
  go_loopg [5] L.length (fun g' i wr => ∃ k : Nat, Hid (g' = L.length - k) ∧ k ≤ L.length ∧ i = .int .i64 k ∧ Hid ((L.take k).any (fun x => sameNd x nd) = false) ∧ Upd Non w wr ∧
      Blk wr w.heap.size 24 #[.int .i64 nd.op, .int .i64 nd.imm, .slice KA nd.kids.length kc])
  case atStart => exact ⟨0, rfl, by omega, rfl, rfl, Upd.refl.alloc _, Blk.new _ _ _⟩
  case round =>
    obtain ⟨k, Hg, hk, rfl, hp, hu, hb⟩ := hrel
    by_cases hlt : k < L.length
    · obtain ⟨lb, lo, rfl, hFl, hlb, h1, h2, KB, kb, h3, _, hki⟩ := (hL.upd hu (fun _ _ _ f => f)).at_ hlt
      have c0 := hb.cell 0
      have c1 := hb.cell 1
      have c2 := hb.cell 2
      have HT : Hid ((L.take (k + 1)).any (fun x => sameNd x nd) = sameNd L[k] nd) := by
        show _ = _
        rw [List.take_succ_eq_append_getElem hlt, List.any_append, hp.out]; simp
      have HY : Hid (sameNd L[k] nd = true → (L.any fun x => sameNd x nd) = true) := fun h => List.any_eq_true.2 ⟨_, List.getElem_mem hlt, h⟩
      have hlen := HLK.out _ (List.getElem_mem hlt)
      have C1 := Lib.hid (sameNode_c wr.drew F G L[k] nd KB KA kb kc hki (hK.upd hu.drew (fun _ _ _ f => f)) hlen)
      generalize L[k] = x at *
      clear hki
      go_wp2_with fail
      refine wp_region_still_tail 5 (by kernel_rfl) (by kernel_rfl) ?_
      simp only [List.take_succ_cons, List.take_zero, List.drop_succ_cons, List.drop_zero]
      repeat still_step
      try refine wpStill_nil ?_
      change wpList _ _ _ _ _ wr.drew
      clear h1 h2 h3 c0 c1 c2
      go_wp2_with fail
      refine C1.out.mono ?_
      rintro e w1 ⟨rfl, hu2⟩
      have hu3 := hu.then_non (Upd.refl.drew.then_non hu2)
      have hb2 := (show Blk wr.drew _ _ _ from hb).upd hu2 (fun f => f)
      cases hs : sameNd x nd with
      | true =>
        have HF := Lib.hid (HY.out hs)
        clear hs
        go_wp2_with fail
        go_ret
        exact ⟨by rw [HF.out]; rfl, hu3⟩
      | false =>
        rw [hs] at HT
        clear hs
        go_wp2_with fail
        go_roundg (L.length - (k + 1))
        case measure => rw [Hg.out]; omega
        case rel => exact ⟨k + 1, rfl, by omega, by go_num, HT, hu3, hb2⟩
    · obtain rfl : L.length = k := by omega
      rw [List.take_length] at hp
      go_wp2_with fail
      go_ret
      exact ⟨by rw [hp.out]; rfl, hu⟩

set_option maxRecDepth 100000 in
set_option maxHeartbeats 1000000 in
theorem next_c (w : World) (p : Nat) (A : Option Addr) (c : Nat) (xs : List Int) (lp : Value) (F : Nat → Prop) (hF : ∀ k, F k → k ≠ p) (hb : Blk w p 82 #[.slice A xs.length c, lp]) (hx : Ints w F A xs) (hc : xs.length ≤ c) :
    Calls Try.prog 45 #[.pointer (some ⟨p, 0, none⟩)] w fun e w' => e = .returned (.int .i64 (xs.headD 0)) ∧ ∃ A' c', Blk w' p 82 #[.slice A' xs.tail.length c', lp] ∧ Ints w' F A' xs.tail ∧ xs.tail.length ≤ c' ∧ Upd (· = p) w w' := by
  have c0 := hb.cell 0
  cases xs with
  | nil =>
    go_enter Try.func45, Try.ntmps45
    go_wp2_with fail
    go_ret
    exact ⟨rfl, A, c, hb, Ints.nil, hc, Upd.refl⟩
  | cons x xs =>
    obtain ⟨b, o, rfl, hFb, _, h1⟩ := hx.at_ (k := 0) (by simp)
    rw [Nat.add_zero] at h1
    simp only [List.getElem_cons_zero] at h1
    have f0 := hb.frozen 0
    have hc' : xs.length + 1 ≤ c := by simpa using hc
    have hne := hF b hFb
    by_cases hc1 : c = 1
    · subst hc1
      obtain rfl : xs = [] := List.eq_nil_of_length_eq_zero (by omega)
      go_enter Try.func45, Try.ntmps45
      go_wp2_with fail
      go_ret
      have hb2 := hb.set_ 0 (.slice (some ⟨b, o, none⟩) 0 0)
      refine ⟨rfl, some ⟨b, o, none⟩, 0, ?_, Ints.nil, by simp, Upd.refl.setCell (S := (· = p)) (p := ⟨p, 0, none⟩) (.inl rfl) _⟩
      simpa using hb2
    · have hb2 := hb.set_ 0 (.slice (some ⟨b, o + 1, none⟩) xs.length (c - 1))
      have hx2 := hx.upd (Upd.refl.setCell (p := ⟨p, 0, none⟩) (S := (· = p)) (.inl rfl) (.slice (some ⟨b, o + 1, none⟩) xs.length (c - 1))) (fun k _ h => hF k h)
      have d : ((c : Int) == 1) = false := by simp; omega
      have HX : Hid (Ints (w.setCell ⟨p, 0, none⟩ (.slice (some ⟨b, o + 1, none⟩) xs.length (c - 1))) F (some ⟨b, o + 1, none⟩) xs) := by
        refine .inr ⟨b, o + 1, rfl, hFb, fun j hj => ?_⟩
        have hj' : j < xs.length := by simpa using hj
        obtain ⟨b', o', e, _, _, hc⟩ := hx2.at_ (k := j + 1) (by simpa using hj')
        injection e with e; injection e with e1 e2; subst e1; subst e2
        rw [Nat.add_assoc, Nat.add_comm 1 j, hc]
        simp
      clear hx2 hx
      go_enter Try.func45, Try.ntmps45
      go_wp2_with fail
      go_ret
      refine ⟨rfl, some ⟨b, o + 1, none⟩, c - 1, ?_, HX.out, by simp; omega, Upd.refl.setCell (S := (· = p)) (p := ⟨p, 0, none⟩) (.inl rfl) _⟩
      simpa using hb2

def idxs (s : List Int) (sort : Int) (k : Nat) : List Int := ((List.range k).filter fun i => s.getD i 0 == sort).map fun (i : Nat) => (i : Int)
theorem idxs_succ (s : List Int) (sort : Int) (k : Nat) : idxs s sort (k + 1) = if s.getD k 0 = sort then idxs s sort k ++ [(k : Int)] else idxs s sort k := by
  unfold idxs
  rw [List.range_succ, List.filter_append, List.map_append]
  by_cases h : s.getD k 0 = sort
  · have hb : (s.getD k 0 == sort) = true := by simpa using h
    rw [if_pos h, List.filter_cons_of_pos (p := fun i => s.getD i 0 == sort) hb]; rfl
  · have hb : ¬ (s.getD k 0 == sort) = true := by simpa using h
    rw [if_neg h, List.filter_cons_of_neg (p := fun i => s.getD i 0 == sort) hb]; simp
theorem idxs_le (s : List Int) (sort : Int) (k : Nat) : (idxs s sort k).length ≤ k := by
  unfold idxs
  rw [List.length_map]
  exact Nat.le_trans (List.length_filter_le _ _) (by simp)
/-- The n-th node of a sort, counted from the end. -/
def ofF (L : List Nd) (sort n : Int) : Int :=
  (idxs (sortsF L) sort L.length).getD ((idxs (sortsF L) sort L.length).length - 1 - (n % ((idxs (sortsF L) sort L.length).length : Int)).toNat) 0

set_option maxRecDepth 100000 in
set_option maxHeartbeats 1000000 in
theorem of_c (w : World) (F : Nat → Prop) (LA : Option Addr) (lc : Nat) (L : List Nd) (sort n : Int) (hL : NodesV w F LA L) (hn : L.length ≤ 1000000) (hk : ∀ nd ∈ L, nd.kids.length ≤ 100000000000) (hne : 0 < (idxs (sortsF L) sort L.length).length) :
    Calls Try.prog 43 #[.slice LA L.length lc, .int .i64 sort, .int .i64 n] w fun e w' => e = .returned (.int .i64 (ofF L sort n)) ∧ Upd Non w w' := by
  have C1 := Lib.hid (sorts_c w F LA lc L hL (by omega) hk)
  have HLN : Hid ((sortsF L).length = L.length) := sortsTo_len L L.length
  have HNE := Lib.hid hne
  have HOF : Hid (ofF L sort n = (idxs (sortsF L) sort L.length).getD ((idxs (sortsF L) sort L.length).length - 1 - (n % ((idxs (sortsF L) sort L.length).length : Int)).toNat) 0) := rfl
  obtain ⟨S, HS⟩ : ∃ S, Hid (sortsF L = S) := nm _
  rw [HS.out] at C1 HLN HNE HOF
  clear hk hne hL
  go_enter Try.func43, Try.ntmps43
  go_wp2_with fail
  refine C1.out.mono ?_
  rintro e w1 ⟨A1, c1, rfl, ho, hA, hu⟩
  have HA := Lib.hid hA
  clear hA C1
  go_wp2_with fail
  go_loopg [8, 9] L.length (fun g v i wr => ∃ (k cc : Nat) (A : Option Addr), Hid (g = L.length - k) ∧ k ≤ L.length ∧ i = .int .i64 k ∧ v = .slice A (idxs S sort k).length cc ∧ Own wr 3 1 A (idxs S sort k).length cc (icells (idxs S sort k)) ∧ Hid (∀ j, At A j → w1.heap.size ≤ j) ∧ Upd Non w1 wr)
  case atStart => exact ⟨0, 0, none, rfl, by omega, rfl, rfl, Own.none_, fun j hj => (At.none_ hj).elim, Upd.refl⟩
  case round =>
    obtain ⟨k, cc, A, Hg, hk, rfl, rfl, ho2, HA2, hu2⟩ := hrel
    have hile := idxs_le S sort k
    by_cases hlt : k < L.length
    · have hks : k < S.length := by rw [HLN.out]; exact hlt
      obtain ⟨ob, oo, rfl, _, _, hco⟩ := (ho.upd hu2 (fun _ _ f => f)).ints.at_ hks
      have HI := Lib.hid (idxs_succ S sort k)
      rw [show S.getD k 0 = S[k] by simp [List.getD, List.getElem?_eq_getElem hks]] at HI
      by_cases he : S[k] = sort
      · have HI2 : Hid (idxs S sort (k + 1) = idxs S sort k ++ [(k : Int)]) := by show _ = _; rw [HI.out, if_pos he]
        rw [he] at hco
        generalize idxs S sort k = I at *
        clear he HI
        go_wp2_with (at_builtin; refine wpList_app rfl rfl T_ints' rfl (ho2.alloc _) rfl (Sl.new _ _ _) rfl (by simp [Value.oneCell']) (by simp only [maxLen]; omega) (by omega) ?_; intro A3 c3 w3 ho3 hu3 hat3)
        go_roundg (L.length - (k + 1))
        case measure => rw [Hg.out]; omega
        case rel =>
          have hl : (idxs S sort (k + 1)).length = I.length + 1 := by rw [HI2.out]; simp
          refine ⟨k + 1, c3, A3, rfl, by omega, by go_num, by rw [hl], by rw [hl, HI2.out, icells_snoc]; exact ho3, fun b hb => ?_, (hu2.alloc _).trans hu3 (fun i hi h => by have := HA2.out i h; omega)⟩
          rcases hat3 b hb with h | h
          · exact HA2.out b h
          · have := hu2.size; simp at h; omega
      · have HI2 : Hid (idxs S sort (k + 1) = idxs S sort k) := by show _ = _; rw [HI.out, if_neg he]
        have d : (S[k] == sort) = false := by simpa using he
        generalize idxs S sort k = I at *
        clear he HI
        go_wp2_with fail
        go_roundg (L.length - (k + 1))
        case measure => rw [Hg.out]; omega
        case rel => exact ⟨k + 1, cc, A, rfl, by omega, by go_num, by rw [HI2.out], by rw [HI2.out]; exact ho2, HA2, hu2⟩
    · obtain rfl : L.length = k := by omega
      have hne := HNE.out
      generalize idxs S sort L.length = I at *
      have hm1 := Int.emod_nonneg n (show (I.length : Int) ≠ 0 by omega)
      have hm2 := Int.emod_lt_of_pos n (show 0 < (I.length : Int) by omega)
      obtain ⟨q, Hq⟩ : ∃ q, Hid (n % (I.length : Int) = q) := nm _
      rw [Hq.out] at hm1 hm2 HOF
      obtain ⟨p, rfl⟩ := Int.eq_ofNat_of_zero_le hm1
      have hpi : p < I.length := by omega
      rw [Int.toNat_natCast] at HOF
      have C2 := Lib.hid (pick_c n I.length wr (by omega) (by omega))
      rw [Hq.out] at C2
      obtain ⟨ob, oo, rfl, _, _, hco⟩ := ho2.ints.at_ (k := I.length - 1 - p) (by omega)
      have HOF2 : Hid (ofF L sort n = I[I.length - 1 - p]) := by
        show _ = _
        rw [HOF.out]; simp [List.getD, List.getElem?_eq_getElem (show I.length - 1 - p < I.length by omega)]
      have e1 : (I.length : Int) - 1 - p = ((I.length - 1 - p : Nat) : Int) := by omega
      generalize I[I.length - 1 - p] = x at *
      generalize hr : I.length - 1 - p = r at *
      have hr2 : r < I.length := by omega
      clear hm1 hm2 hr HOF
      go_wp2_with fail
      refine C2.out.mono ?_
      rintro e w2 ⟨rfl, rfl⟩
      go_wp2_with fail
      go_ret
      exact ⟨by rw [HOF2.out]; rfl, hu.then_non hu2⟩

end Go.Proofs.Ytigambcefdeaoaa
