/-
  What keep.Mutate does: it returns some list of nodes, at most one longer, and turns nothing old.
-/
import Derived.Test.YtigambcefdeaoaaNGood
import Derived.Deep.CutBlock
import Derived.Deep.RegionHeld3
import Derived.IntWalk
namespace Go.Proofs.Ytigambcefdeaoaa
open Go.RowKit

theorem NodesV.cells_aux {w : World} {F : Nat → Prop} {b : Nat} : ∀ (L : List Nd) (off : Nat), (∀ i (h : i < L.length), NodeAt w F b (off + i * 3) L[i]) →
    ∃ cs : List Value, (∀ j (h : j < cs.length), w.cell? ⟨b, off + j, none⟩ = some cs[j]) ∧ (∀ u ∈ cs, u.oneCell' = true) ∧ NodeCells w F cs L
  | [], off, _ => ⟨[], by simp, by simp, NodeCells.nil⟩
  | nd :: L, off, h => by
    obtain ⟨cs, h1, h2, h3, h4⟩ := NodesV.cells_aux L (off + 3) (fun i hi => by
      have := h (i + 1) (by simpa using hi)
      rw [show off + (i + 1) * 3 = off + 3 + i * 3 by omega] at this
      simpa using this)
    obtain ⟨a1, a2, KA, kc, a3, a4, a5⟩ := h 0 (by simp)
    rw [Nat.zero_mul, Nat.add_zero] at a1 a2 a3
    refine ⟨.int .i64 nd.op :: .int .i64 nd.imm :: .slice KA nd.kids.length kc :: cs, ?_, ?_, by simp [h3]; omega, ?_⟩
    · intro j hj
      match j, hj with
      | 0, _ => exact a1
      | 1, _ => exact a2
      | 2, _ => exact a3
      | j + 3, hj =>
        have := h1 j (by simpa using hj)
        rw [show off + (j + 3) = off + 3 + j by omega]
        simpa using this
    · intro u hu
      simp only [List.mem_cons] at hu
      rcases hu with rfl | rfl | rfl | hu
      · rfl
      · rfl
      · rfl
      · exact h2 u hu
    · intro i hi
      match i, hi with
      | 0, _ => exact ⟨KA, kc, rfl, rfl, rfl, a4, a5⟩
      | i + 1, hi =>
        obtain ⟨KB, kb, b1, b2, b3, b4, b5⟩ := h4 i (by simpa using hi)
        refine ⟨KB, kb, ?_, ?_, ?_, b4, b5⟩
        · rw [show 3 * (i + 1) = 3 * i + 1 + 1 + 1 by omega]; simpa using b1
        · rw [show 3 * (i + 1) + 1 = 3 * i + 1 + 1 + 1 + 1 by omega]; simpa using b2
        · rw [show 3 * (i + 1) + 2 = 3 * i + 2 + 1 + 1 + 1 by omega]; simpa using b3

theorem NodesV.cells {w : World} {F : Nat → Prop} {A : Option Addr} {L : List Nd} (h : NodesV w F A L) : ∃ cs : List Value, Sl w F A cs ∧ (∀ u ∈ cs, u.oneCell' = true) ∧ NodeCells w F cs L := by
  rcases h with rfl | ⟨b, off, e, hF, hc⟩
  · exact ⟨[], .inl rfl, by simp, NodeCells.nil⟩
  · obtain ⟨cs, h1, h2, h3⟩ := NodesV.cells_aux L off hc
    exact ⟨cs, .inr ⟨b, off, e, hF, h1⟩, h2, h3⟩

/-- A node with few operands. -/
def NdS (nd : Nd) : Prop := I64 nd.op ∧ I64 nd.imm ∧ nd.kids.length ≤ 1001
theorem NdS.ok {nd : Nd} (h : NdS nd) : NdOk nd := ⟨h.1, h.2.1, by have := h.2.2; omega⟩

/-- While a node is mutated: the nodes, and the node's own block. -/
structure MSt (w0 : World) (bn : Nat) (op imm : Int) (KA : Option Addr) (kids : List Int) (kc : Nat) (A : Option Addr) (c : Nat) (L : List Nd) (wx : World) : Prop where
  upd : Upd Non w0 wx
  bnGe : w0.heap.size ≤ bn
  blk : Blk wx bn 24 #[.int .i64 op, .int .i64 imm, .slice KA kids.length kc]
  kds : Ints wx (fun k => k ≠ bn ∧ ¬ At A k) KA kids
  kle : kids.length ≤ kc
  no : NodesO wx (· ≠ bn) A L.length c L
  sep : ∀ k, At A k → w0.heap.size ≤ k ∧ k ≠ bn
  ok : NdS ⟨op, imm, kids⟩
  oks : ∀ nd ∈ L, NdS nd

/-- The node stored back. -/
theorem MSt.back {w0 wx : World} {bn : Nat} {op imm : Int} {KA : Option Addr} {kids : List Int} {kc : Nat} {g c : Nat} {L : List Nd} (h : MSt w0 bn op imm KA kids kc (some ⟨g, 0, none⟩) c L wx) {i : Nat} (hi : i < L.length) :
    NodesV (((wx.setCell ⟨g, i * 3, none⟩ (.int .i64 op)).setCell ⟨g, i * 3 + 1, none⟩ (.int .i64 imm)).setCell ⟨g, i * 3 + 2, none⟩ (.slice KA kids.length kc)) (fun _ => True) (some ⟨g, 0, none⟩) (L.set i ⟨op, imm, kids⟩) ∧
    Upd Non w0 (((wx.setCell ⟨g, i * 3, none⟩ (.int .i64 op)).setCell ⟨g, i * 3 + 1, none⟩ (.int .i64 imm)).setCell ⟨g, i * 3 + 2, none⟩ (.slice KA kids.length kc)) ∧ ∀ nd ∈ L.set i ⟨op, imm, kids⟩, NdS nd := by
  have hgA : At (some ⟨g, 0, none⟩) g := At.some_.2 rfl
  have hU : Upd (· = g) wx (((wx.setCell ⟨g, i * 3, none⟩ (.int .i64 op)).setCell ⟨g, i * 3 + 1, none⟩ (.int .i64 imm)).setCell ⟨g, i * 3 + 2, none⟩ (.slice KA kids.length kc)) :=
    ((Upd.refl.setCell (S := (· = g)) (p := ⟨g, i * 3, none⟩) (.inl rfl) _).setCell (p := ⟨g, i * 3 + 1, none⟩) (.inl rfl) _).setCell (p := ⟨g, i * 3 + 2, none⟩) (.inl rfl) _
  refine ⟨?_, h.upd.trans hU (fun k hk e => by have := (h.sep g hgA).1; omega), ?_⟩
  · obtain ⟨_, cs, ho, hcs⟩ := h.no
    rcases ho.cases with ⟨h0, _⟩ | ⟨g', cur, e, hb, hn, _, hsz, ht⟩
    · cases h0
    · injection e with e
      injection e with e
      subst e
      have hb3 := ((hb.set_ (i * 3) (.int .i64 op)).set_ (i * 3 + 1) (.int .i64 imm)).set_ (i * 3 + 2) (.slice KA kids.length kc)
      generalize (((wx.setCell ⟨g, i * 3, none⟩ (.int .i64 op)).setCell ⟨g, i * 3 + 1, none⟩ (.int .i64 imm)).setCell ⟨g, i * 3 + 2, none⟩ (.slice KA kids.length kc)) = W at *
      have hlen : i * 3 + 2 < cur.size := by rw [hsz]; omega
      refine .inr ⟨g, 0, rfl, trivial, fun t ht' => ?_⟩
      rw [Nat.zero_add]
      have htl : t < L.length := by simpa using ht'
      by_cases e : i = t
      · subst e
        rw [List.getElem_set_self]
        refine ⟨?_, ?_, KA, kc, ?_, h.kle, ?_⟩
        · rw [hb3.cell]; simp only [Array.getElem?_setIfInBounds]; simp; omega
        · rw [hb3.cell]; simp only [Array.getElem?_setIfInBounds]; simp; omega
        · rw [hb3.cell]; simp only [Array.getElem?_setIfInBounds]; simp; omega
        · exact (h.kds.upd hU (fun k _ hk e => hk.2 (e ▸ hgA))).mono (fun _ _ _ => trivial)
      · rw [List.getElem_set_ne e]
        obtain ⟨KB, kb, c1, c2, c3, c4, c5⟩ := hcs.2 t htl
        have hcell : ∀ j u, cs[j]? = some u → j ≠ i * 3 → j ≠ i * 3 + 1 → j ≠ i * 3 + 2 → W.cell? ⟨g, j, none⟩ = some u := by
          intro j u hj n1 n2 n3
          rw [hb3.cell]
          simp only [Array.getElem?_setIfInBounds]
          rw [if_neg (Ne.symm n3), if_neg (Ne.symm n2), if_neg (Ne.symm n1)]
          rw [← ht, List.getElem?_take] at hj
          split at hj
          · simpa using hj
          · cases hj
        refine ⟨?_, ?_, KB, kb, ?_, c4, ?_⟩
        · exact hcell _ _ (by rw [Nat.mul_comm]; exact c1) (by omega) (by omega) (by omega)
        · exact hcell _ _ (by rw [Nat.mul_comm]; exact c2) (by omega) (by omega) (by omega)
        · exact hcell _ _ (by rw [Nat.mul_comm]; exact c3) (by omega) (by omega) (by omega)
        · exact (c5.upd hU (fun k _ hk e => hk.2 (e ▸ hgA))).mono (fun _ _ _ => trivial)
  · intro nd hnd
    rcases List.mem_or_eq_of_mem_set hnd with h1 | h1
    · exact h.oks nd h1
    · subst h1; exact h.ok
theorem MSt.of {w0 wx w' : World} {S : Nat → Prop} {bn : Nat} {op imm op' imm' : Int} {KA KA' : Option Addr} {kids kids' : List Int} {kc kc' g c : Nat} {L : List Nd} (h : MSt w0 bn op imm KA kids kc (some ⟨g, 0, none⟩) c L wx)
    (hno : NodesO wx (· < w0.heap.size) (some ⟨g, 0, none⟩) L.length c L) (hU : Upd S wx w') (hS : ∀ k, S k → w0.heap.size ≤ k ∧ k ≠ g) (hb : Blk w' bn 24 #[.int .i64 op', .int .i64 imm', .slice KA' kids'.length kc'])
    (hk : Ints w' (fun k => k ≠ bn ∧ k ≠ g) KA' kids') (hle : kids'.length ≤ kc') (hok : NdS ⟨op', imm', kids'⟩) : MSt w0 bn op' imm' KA' kids' kc' (some ⟨g, 0, none⟩) c L w' :=
  ⟨h.upd.trans hU (fun k hk e => by have := hS k e; omega), h.bnGe, hb, hk.mono (fun k _ h => ⟨h.1, fun e => h.2 (At.some_.1 e)⟩), hle,
    (hno.upd hU (fun k hk e => by rw [At.some_] at hk; exact (hS k e).2 hk) (fun k _ hk e => by have := hS k e; omega)).mono (fun k _ hk => by have := h.bnGe; omega), h.sep, hok, h.oks⟩
theorem MSt.kds' {w0 wx : World} {bn : Nat} {op imm : Int} {KA : Option Addr} {kids : List Int} {kc g c : Nat} {L : List Nd} (h : MSt w0 bn op imm KA kids kc (some ⟨g, 0, none⟩) c L wx) {w' : World} (hU : Upd (· = bn) wx w') : Ints w' (fun k => k ≠ bn ∧ k ≠ g) KA kids :=
  (h.kds.upd hU (fun _ _ hk e => hk.1 e)).mono (fun _ _ hk => ⟨hk.1, fun e => hk.2 (At.some_.2 e)⟩)

theorem MSt.snoc {w0 wx w' : World} {bn : Nat} {op imm : Int} {KA A A' : Option Addr} {kids : List Int} {kc c c' : Nat} {L : List Nd} {cs : List Value} {o : Obj} (h : MSt w0 bn op imm KA kids kc A c L wx) (hcs : NodeCells wx (fun k => k ≠ bn ∧ ¬ At A k) cs L)
    (ho : Own w' 24 3 A' (L.length + 1) c' (cs ++ [.int .i64 op, .int .i64 imm, .slice KA kids.length kc])) (hu : Upd (At A) (wx.alloc o) w') (hat : ∀ k, At A' k → At A k ∨ k = wx.heap.size + 1) :
    MSt w0 bn op imm KA kids kc A' c' (L ++ [⟨op, imm, kids⟩]) w' := by
  have hbl := h.blk.lt
  have hal : Upd Non wx (wx.alloc o) := Upd.refl.alloc _
  have hsz := h.upd.size
  have hk2 := (h.kds.mono (G := fun k => (k ≠ bn ∧ ¬ At A k) ∧ k < wx.heap.size) (fun k hk hh => ⟨hh, hk⟩)).upd hal (fun _ _ _ f => f)
  have hcs2 := hcs.mono hal (fun _ _ _ f => f) (K' := fun k => k ≠ bn ∧ ¬ At A k) (fun _ _ h => h)
  have hnd : ∀ k, k < wx.heap.size → ¬ At A k → ¬ At A' k := fun k hk h1 h2 => by
    rcases hat k h2 with q | q
    · exact h1 q
    · omega
  refine ⟨(h.upd.alloc o).trans hu (fun k hk e => by have := (h.sep k e).1; omega), h.bnGe, (h.blk.alloc o).upd hu (fun q => (h.sep _ q).2 rfl), (hk2.upd hu (fun k _ hh => hh.1.2)).mono (fun k _ hh => ⟨hh.1.1, hnd k hh.2 hh.1.2⟩), h.kle, ?_, ?_, h.ok, ?_⟩
  · rw [List.length_append]
    have hno : NodesO (wx.alloc o) (· ≠ bn) A L.length c L := h.no.upd hal (fun _ _ f => f) (fun _ _ _ f => f)
    exact NodesO.snoc (nd := ⟨op, imm, kids⟩) hno hcs2 (hk2.mono (fun _ _ h => h.1)) h.kle ho hu (fun k hk => (hat k hk).imp id (fun e => by simp; exact e)) (fun _ _ h => h)
  · intro k hk
    rcases hat k hk with q | q
    · exact h.sep k q
    · exact ⟨by omega, by omega⟩
  · intro nd hnd
    rcases List.mem_append.1 hnd with q | q
    · exact h.oks nd q
    · simp at q; subst q; exact h.ok

/-- What the switch leaves. -/
def MPost (w0 : World) (bn n : Nat) (s : Value) (wx : World) : Prop :=
  ∃ (op imm : Int) (KA : Option Addr) (kids : List Int) (kc g c : Nat) (L : List Nd), s = .slice (some ⟨g, 0, none⟩) L.length c ∧ MSt w0 bn op imm KA kids kc (some ⟨g, 0, none⟩) c L wx ∧ n ≤ L.length ∧ L.length ≤ n + 1

theorem own_empty (w : World) (t : TypeId) (size : Nat) : Own (w.alloc (.cells #[] t)) t size (some ⟨w.heap.size, 0, none⟩) 0 0 [] := Own.mk_ (Blk.new w t #[]) (Nat.le_refl _) (by simp [maxLen]) (by simp) (by simp)

theorem own_empty' {w : World} (t : TypeId) (size : Nat) {g : Nat} (h : g = w.heap.size) : Own (w.alloc (.cells #[] t)) t size (some ⟨g, 0, none⟩) 0 0 [] := by subst h; exact own_empty w t size

set_option maxHeartbeats 4000000 in
set_option maxRecDepth 100000 in
theorem mutate_c (w : World) (F : Nat → Prop) (LA : Option Addr) (lc : Nat) (L : List Nd) (how at_ : Int) (hL : NodesV w F LA L) (hn : L.length ≤ 1000) (hk : ∀ nd ∈ L, nd.kids.length ≤ 1000) (hok : ∀ nd ∈ L, NdOk nd) (hh : I64 how) (ha : I64 at_) :
    Calls Try.prog 25 #[.slice LA L.length lc, .int .i64 how, .int .i64 at_] w fun e w' => ∃ A c L', e = .returned (.slice A (List.length L') c) ∧ NodesV w' (fun _ => True) A L' ∧ L'.length ≤ L.length + 1 ∧ (∀ nd ∈ L', NdS nd) ∧ L'.length ≤ c ∧ Upd Non w w' := by
  obtain ⟨cs, hsl, hone, hcs⟩ := hL.cells
  have hcl := hcs.1
  have hsl1 := hsl.upd (Upd.refl (S := Non).alloc (.cells #[] 24)) (fun _ _ _ f => f)
  have HL0 := Lib.hid hcl
  have Hone := Lib.hid hone
  have Hok := Lib.hid hok
  have Hk := Lib.hid hk
  clear hsl hone hcl hL hok hk
  go_enter Try.func25, Try.ntmps25
  by_cases hz : L.length = 0
  · obtain rfl : L = [] := List.eq_nil_of_length_eq_zero hz
    go_wp2_with (at_builtin; refine wpList_app rfl rfl T_nodes rfl (own_empty w 24 3) rfl hsl1 (by rw [HL0.out]; rfl) Hone.out (by simp [maxLen]) (by simp) ?_; intro A1 c1 w1 ho1 hu1 hat1)
    go_ret
    exact ⟨A1, c1, [], rfl, .inl rfl, by simp, by simp, Nat.zero_le _, (Upd.refl.alloc _).trans hu1 (fun i hi h => by rw [At.some_] at h; omega)⟩
  · go_wp2_with (at_builtin; refine wpList_app rfl rfl T_nodes rfl (own_empty w 24 3) rfl hsl1 (by rw [HL0.out]; omega) Hone.out (by simp only [maxLen]; omega) (by omega) ?_; intro A1 c1 w1 ho1 hu1 hat1)
    have hA1 : ∀ k, At A1 k → w.heap.size ≤ k := fun k hk => by
      rcases hat1 k hk with h | h
      · rw [At.some_] at h; omega
      · simp at h; omega
    have hU1 : Upd Non w w1 := (Upd.refl.alloc _).trans hu1 (fun i hi h => by rw [At.some_] at h; omega)
    have hcs1 : NodeCells w1 (fun k => k < w.heap.size) cs L := (hcs.mono (Upd.refl (S := Non)) (fun _ _ _ f => f) (K' := fun k => k < w.heap.size) (fun k hk _ => hk)).mono hU1 (fun _ _ _ f => f) (fun _ _ h => h)
    rw [Nat.zero_add, List.nil_append] at ho1
    rcases ho1.cases with ⟨_, h0, _⟩ | ⟨g, cur, rfl, hbk, hnc, _, hsz, htk⟩
    · exact absurd h0 hz
    have hgge := hA1 g (At.some_.2 rfl)
    obtain ⟨i, Hi⟩ : ∃ i : Nat, Hid (at_ % (L.length : Int) = i) := ⟨(at_ % (L.length : Int)).toNat, by
      have := Int.emod_nonneg at_ (show (L.length : Int) ≠ 0 by omega)
      show _ = _; omega⟩
    have hil : i < L.length := by
      have := Int.emod_lt_of_pos at_ (show (0 : Int) < (L.length : Int) by omega)
      have := Hi.out
      omega
    have C1 := Lib.hid (pick_c at_ L.length w1 (by omega) (by omega))
    rw [Hi.out] at C1
    refine C1.out.mono ?_
    rintro e w2 ⟨rfl, rfl⟩
    clear C1
    have hcell : ∀ j u, cs[j]? = some u → w1.cell? ⟨g, j, none⟩ = some u := by
      intro j u hj
      rw [hbk.cell]
      rw [← htk, List.getElem?_take] at hj
      split at hj
      · simpa using hj
      · cases hj
    obtain ⟨KB, kb, q1, q2, q3, hkb, hKB⟩ := hcs1.2 i hil
    have n0 := hcell _ _ q1
    have n1 := hcell _ _ q2
    have n2 := hcell _ _ q3
    rw [Nat.mul_comm] at n0 n1 n2
    have hndk := Hk.out _ (List.getElem_mem hil)
    have hndo := Hok.out _ (List.getElem_mem hil)
    clear hcell q1 q2 q3
    generalize L[i] = nd at *
    have hbl := hbk.lt
    have hno1 : NodesO w1 (· < w.heap.size) (some ⟨g, 0, none⟩) L.length c1 L := ⟨rfl, cs, ho1, hcs1.mono (Upd.refl (S := Non)) (fun _ _ _ f => f) (fun k _ h => ⟨h, fun e => by rw [At.some_] at e; omega⟩)⟩
    obtain ⟨op, imm, kids⟩ := nd
    dsimp only at n0 n1 n2 hKB hkb hndk
    have HNO := Lib.hid hndo
    clear hcs hsl1 hcs1 hu1 hat1 htk hsz hbk ho1 hndo
    have hKB1 := (hKB.upd (Upd.refl (S := Non).alloc (.cells #[.int .i64 op, .int .i64 imm, .slice KB kids.length kb] 24)) (fun _ _ _ f => f)).upd (Upd.refl (S := Non).alloc (.cells #[] 3)) (fun _ _ _ f => f)
    go_wp2_with (at_builtin; refine wpList_app rfl rfl T_ints' rfl (own_empty' (g := w1.heap.size + 1) 3 1 (by simp)) rfl hKB1 (by simp) (by simp [Value.oneCell']) (by simp only [maxLen]; omega) (by omega) ?_; intro A2 c2 w2 ho2 hu2 hat2; have hblk2 := ((Blk.new w1 24 #[.int .i64 op, .int .i64 imm, .slice KB kids.length kb]).alloc (.cells #[] 3)).upd hu2 (fun h => by rw [At.some_] at h; omega); have cb2 := hblk2.cell 2; have fb2 := hblk2.frozen 2)
    rw [Nat.zero_add, List.nil_append] at ho2
    have hU2 : Upd Non w1 w2 := ((Upd.refl.alloc _).alloc _).trans hu2 (fun i hi h => by rw [At.some_] at h; omega)
    have hsz12 := hU1.size
    have hA2 : ∀ k, At A2 k → w1.heap.size < k := fun k hk => by
      rcases hat2 k hk with h | h
      · rw [At.some_] at h; omega
      · simp at h; omega
    have hub : Upd (· = w1.heap.size) w2 (w2.setCell ⟨w1.heap.size, 2, none⟩ (.slice A2 kids.length c2)) := updCell _ _ _ _
    have hownK : Own (w2.setCell ⟨w1.heap.size, 2, none⟩ (.slice A2 kids.length c2)) 3 1 A2 kids.length c2 (icells kids) :=
      Own.upd (show Own w2 3 1 A2 kids.length c2 (icells kids) from ho2) hub (fun k hk e => by have := hA2 k hk; omega)
    have hst : MSt w w1.heap.size op imm A2 kids c2 (some ⟨g, 0, none⟩) c1 L (w2.setCell ⟨w1.heap.size, 2, none⟩ (.slice A2 kids.length c2)) := by
      refine ⟨(hU1.then_non hU2).trans hub (fun k hk e => by omega), hsz12, by simpa using hblk2.set_ 2 (.slice A2 kids.length c2), hownK.ints.mono (fun k _ hk => ⟨by have := hA2 k hk; omega, fun e => by rw [At.some_] at e; have := hA2 k hk; omega⟩), hownK.le, ?_, fun k hk => by rw [At.some_] at hk; omega, ⟨HNO.out.1, HNO.out.2.1, by dsimp only; omega⟩, fun nd h => ⟨(Hok.out nd h).1, (Hok.out nd h).2.1, by have := Hk.out nd h; omega⟩⟩
      exact ((hno1.upd hU2 (fun _ _ f => f) (fun _ _ _ f => f)).upd hub (fun k hk e => by rw [At.some_] at hk; omega) (fun k _ hk e => by omega)).mono (fun k _ hk => by omega)
    have hnoW : NodesO (w2.setCell ⟨w1.heap.size, 2, none⟩ (.slice A2 kids.length c2)) (· < w.heap.size) (some ⟨g, 0, none⟩) L.length c1 L := (hno1.upd hU2 (fun _ _ f => f) (fun _ _ _ f => f)).upd hub (fun k hk e => by rw [At.some_] at hk; omega) (fun k _ hk e => by omega)
    obtain ⟨bn, Hbn⟩ := nm w1.heap.size
    obtain ⟨W3, HW3⟩ := nm (w2.setCell ⟨w1.heap.size, 2, none⟩ (.slice A2 kids.length c2))
    rw [HW3.out] at hst hownK hnoW ⊢
    rw [Hbn.out] at hst hA2 ⊢
    have C2 := Lib.hid (pick_c how 10 W3 (by omega) (by omega))
    have m1 := Int.emod_nonneg how (show (10 : Int) ≠ 0 by omega)
    have m2 := Int.emod_lt_of_pos how (show (0 : Int) < 10 by omega)
    obtain ⟨y, Hy⟩ := nm (how % 10)
    rw [Hy.out] at C2 m1 m2
    have hgbn : g < bn := by have := Hbn.out; omega
    clear hU1 hU2 hno1 hub hblk2 cb2 fb2 hu2 hat2 ho2 hKB1 hKB n0 n1 n2 hsz12 hbl
    refine C2.out.mono ?_
    rintro e w4 ⟨rfl, rfl⟩
    clear C2
    have q10 : wrap64 (how.tdiv 10) = how.tdiv 10 := wrap64_of (hh.tdiv 10 (by omega))
    have q3 : wrap64 (at_.tdiv 3) = at_.tdiv 3 := wrap64_of (ha.tdiv 3 (by omega))
    have q10' : IntKind.i64.wrap (how.tdiv 10) = how.tdiv 10 := i64w_of (hh.tdiv 10 (by omega))
    have q3' : IntKind.i64.wrap (at_.tdiv 3) = at_.tdiv 3 := i64w_of (ha.tdiv 3 (by omega))
    obtain ⟨h10, H10⟩ := nm (how.tdiv 10)
    obtain ⟨a3, H3⟩ := nm (at_.tdiv 3)
    have b0 := hst.blk.cell 0
    have b1 := hst.blk.cell 1
    have b2 := hst.blk.cell 2
    have f0 := hst.blk.frozen 0
    have f1 := hst.blk.frozen 1
    have f2 := hst.blk.frozen 2
    have hbl := hst.blk.lt
    have C36 := Lib.hid (pick_c h10 36 W3 (by omega) (by omega))
    have C300 := Lib.hid (pick_c h10 300 W3 (by omega) (by omega))
    have C40 := Lib.hid (fun (W : World) => pick_c h10 40 W (by omega) (by omega))
    have ub : ∀ j v, Upd (· = bn) W3 (W3.setCell ⟨bn, j, none⟩ v) := fun j v => updCell _ _ _ _
    have Hub := Lib.hid ub
    have HSb : Hid (∀ k, k = bn → w.heap.size ≤ k ∧ k ≠ g) := fun k e => ⟨by have := hst.bnGe; omega, by omega⟩
    obtain ⟨ho1, ho2, ho3⟩ := HNO.out
    dsimp only at ho1 ho2 ho3
    have Ho1 := Lib.hid ho1
    have Ho2 := Lib.hid ho2
    clear ho1 ho2 ho3 ub
    go_upto_block 0 with fail
    go_cut [7] (fun s wx => MPost w bn L.length s wx)
    case first =>
      have hy : y = 0 ∨ y = 1 ∨ y = 2 ∨ y = 3 ∨ y = 4 ∨ y = 5 ∨ y = 6 ∨ y = 7 ∨ y = 8 ∨ y = 9 := by omega
      clear m1 m2
      rcases hy with rfl | rfl | rfl | rfl | rfl | rfl | rfl | rfl | rfl | rfl
      · have r1 := Int.emod_nonneg h10 (show (36 : Int) ≠ 0 by omega)
        have r2 := Int.emod_lt_of_pos h10 (show (0 : Int) < 36 by omega)
        go_wp2_with fail
        rw [H10.out]
        refine C36.out.mono ?_
        rintro e w4 ⟨rfl, rfl⟩
        generalize h10 % 36 = v at *
        go_wp2_with fail
        go_meet
        refine ⟨v - 1, imm, A2, kids, c2, g, c1, L, rfl, hst.of hnoW (Hub.out 0 _) HSb.out (by simpa using hst.blk.set_ 0 (.int .i64 (v - 1))) (hst.kds' (Hub.out 0 _)) hst.kle ⟨by dsimp only; unfold I64; omega, Ho2.out, by dsimp only; omega⟩, by omega, by omega⟩
      · have r1 := Int.emod_nonneg h10 (show (300 : Int) ≠ 0 by omega)
        have r2 := Int.emod_lt_of_pos h10 (show (0 : Int) < 300 by omega)
        go_wp2_with fail
        rw [H10.out]
        refine C300.out.mono ?_
        rintro e w4 ⟨rfl, rfl⟩
        generalize h10 % 300 = v at *
        go_wp2_with fail
        go_meet
        refine ⟨op, v - 3, A2, kids, c2, g, c1, L, rfl, hst.of hnoW (Hub.out 1 _) HSb.out (by simpa using hst.blk.set_ 1 (.int .i64 (v - 3))) (hst.kds' (Hub.out 1 _)) hst.kle ⟨Ho1.out, by dsimp only; unfold I64; omega, by dsimp only; omega⟩, by omega, by omega⟩
      · have r1 := Int.emod_nonneg h10 (show ((L.length : Int) + 2) ≠ 0 by omega)
        have r2 := Int.emod_lt_of_pos h10 (show (0 : Int) < (L.length : Int) + 2 by omega)
        have CP := Lib.hid (fun (W : World) => pick_c h10 ((L.length : Int) + 2) W (by omega) (by omega))
        obtain ⟨v, Hv⟩ := nm (h10 % ((L.length : Int) + 2))
        rw [Hv.out] at CP r1 r2
        have s1 : IntKind.i64.wrap (v - 1) = v - 1 := i64w_of (by unfold I64; omega)
        have s2 : IntKind.i64.wrap ((L.length : Int) + 2) = (L.length : Int) + 2 := i64w_of (by unfold I64; omega)
        have HA2 := Lib.hid hA2
        clear hA2
        go_wp2_with fail
        go_region_law (first
          | (refine step_app rfl rfl T_ints' rfl ((show Own W3.drew _ _ _ _ _ _ from hownK).alloc _) rfl (Sl.new _ _ _) rfl (by simp [Value.oneCell']) (by simp only [maxLen]; omega) (by omega) ?_; intro A4 c4 w4 ho4 hu4 hat4; have hblk4 := ((show Blk W3.drew _ _ _ from hst.blk).alloc _).upd hu4 (fun q => by have := HA2.out _ q; omega); have cb4 := hblk4.cell 2; have f4 := hblk4.frozen 2)
          | (go_simp; rw [H10.out]; go_at_call 16; refine (CP.out _).mono ?_; rintro e w1 ⟨rfl, rfl⟩))
        all_goals
          go_wp2_with fail
          go_meet
          have hUk : Upd (fun k => k = bn ∨ At A2 k) W3 (w4.setCell ⟨bn, 2, none⟩ (.slice A4 (kids.length + 1) c4)) := ((Upd.refl.drew.alloc _).trans hu4 (fun i hi h => .inr h)).setCell (p := ⟨bn, 2, none⟩) (.inl (.inl rfl)) _
          have hoi : Own w4 3 1 A4 (kids ++ [v - 1]).length c4 (icells (kids ++ [v - 1])) := by rw [icells_snoc, List.length_append]; exact ho4
          refine ⟨op, imm, A4, kids ++ [v - 1], c4, g, c1, L, rfl, hst.of hnoW hUk (fun k hk => ?_) (by simpa using hblk4.set_ 2 (.slice A4 (kids.length + 1) c4)) ?_ hoi.le ⟨Ho1.out, Ho2.out, by simp; omega⟩, by omega, by omega⟩
          · have := hst.bnGe
            rcases hk with h | h
            · omega
            · have := HA2.out k h; omega
          · refine (hoi.ints.mono (G := fun k => k ≠ bn ∧ k ≠ g) (fun k _ hk => ?_)).upd (updCell _ _ _ _) (fun k _ hk e => hk.1 e)
            rcases hat4 k hk with h | h
            · have := HA2.out k h; omega
            · simp at h; omega
      · by_cases hk0 : kids.length = 0
        · have hd : decide (0 < kids.length) = false := decide_eq_false (by omega)
          go_wp2_with fail
          go_meet
          exact ⟨op, imm, A2, kids, c2, g, c1, L, rfl, hst, by omega, by omega⟩
        · have r1 := Int.emod_nonneg a3 (show ((L.length : Int) + 2) ≠ 0 by omega)
          have r2 := Int.emod_lt_of_pos a3 (show (0 : Int) < (L.length : Int) + 2 by omega)
          have CP := Lib.hid (fun (W : World) => pick_c a3 ((L.length : Int) + 2) W (by omega) (by omega))
          obtain ⟨v, Hv⟩ := nm (a3 % ((L.length : Int) + 2))
          rw [Hv.out] at CP r1 r2
          have CK := Lib.hid (fun (W : World) => pick_c h10 (kids.length : Int) W (by omega) (by omega))
          obtain ⟨j, Hj⟩ : ∃ j : Nat, Hid (h10 % (kids.length : Int) = j) := ⟨(h10 % (kids.length : Int)).toNat, by
            have := Int.emod_nonneg h10 (show (kids.length : Int) ≠ 0 by omega)
            show _ = _; omega⟩
          have hj : j < kids.length := by
            have := Int.emod_lt_of_pos h10 (show (0 : Int) < (kids.length : Int) by omega)
            have := Hj.out
            omega
          rw [Hj.out] at CK
          have s1 : IntKind.i64.wrap (v - 1) = v - 1 := i64w_of (by unfold I64; omega)
          have s2 : IntKind.i64.wrap ((L.length : Int) + 2) = (L.length : Int) + 2 := i64w_of (by unfold I64; omega)
          rcases hownK.cases with ⟨_, h0, _⟩ | ⟨gk, curk, rfl, hbk, hnk, hmk, hszk, htk⟩
          · omega
          have hgk := hA2 gk (At.some_.2 rfl)
          have hcj : W3.cell? ⟨gk, j, none⟩ = some (.int .i64 kids[j]) := by
            obtain ⟨_, _, e, _, _, hh⟩ := hownK.ints.at_ hj
            injection e with e; injection e with e1 e2; subst e1; subst e2
            rw [Nat.zero_add] at hh
            exact hh
          have hfj := hbk.frozen j
          have j1 : (0 : Int) ≤ (j : Int) := by omega
          have j2 : (j : Int) < (kids.length : Int) := by omega
          have hd : decide (0 < kids.length) = true := decide_eq_true (by omega)
          have hpk : 0 < kids.length := by omega
          go_wp2_with fail
          go_region_held3 (fun w' => w'.cell? ⟨bn, 2, none⟩ = some (.slice (some ⟨gk, 0, none⟩) kids.length c2))
            (first | exact b2 | exact cell_upd b2 ((updCell W3 gk j _).drew) (fun e => by omega) | go_keep)
            (first
              | (go_simp; rw [H10.out]; go_at_call 16; refine (CK.out _).mono ?_; rintro e w1 ⟨rfl, rfl⟩)
              | (go_simp; rw [H3.out]; go_at_call 16; refine (CP.out _).mono ?_; rintro e w1 ⟨rfl, rfl⟩))
          all_goals
            go_wp2_with fail
            go_meet
            have hUk : Upd (fun k => k = gk) W3 (W3.setCell ⟨gk, j, none⟩ (.int .i64 (v - 1))).drew := (updCell W3 gk j _).drew
            have hbk2 := hbk.set_ j (.int .i64 (v - 1))
            refine ⟨op, imm, some ⟨gk, 0, none⟩, kids.set j (v - 1), c2, g, c1, L, rfl, hst.of hnoW hUk (fun k hk => ?_) (by simpa using hst.blk.upd hUk (fun e => by omega)) ?_ (by rw [List.length_set]; exact hnk) ⟨Ho1.out, Ho2.out, by simp; omega⟩, by omega, by omega⟩
            · have := hst.bnGe
              omega
            · refine .inr ⟨gk, 0, rfl, by omega, fun t ht => ?_⟩
              have ht' : t < kids.length := by simpa using ht
              have hct : curk[t]? = some (.int .i64 kids[t]) := by
                obtain ⟨_, _, e, _, _, hh⟩ := hownK.ints.at_ ht'
                injection e with e; injection e with e1 e2; subst e1; subst e2
                rw [Nat.zero_add, hbk.cell] at hh
                exact hh
              have hjs : j < curk.size := by rw [hszk]; omega
              show (W3.setCell ⟨gk, j, none⟩ (.int .i64 (v - 1))).cell? ⟨gk, 0 + t, none⟩ = _
              rw [Nat.zero_add, hbk2.cell, Array.getElem?_setIfInBounds]
              by_cases e : j = t
              · subst e; simp [hjs]
              · rw [if_neg e, hct]; simp [List.getElem_set_ne e]
      · cases kids with
        | nil =>
          go_wp2_with fail
          go_meet
          exact ⟨op, imm, A2, [], c2, g, c1, L, rfl, hst, by omega, by omega⟩
        | cons x xs =>
          rcases hownK.cases with ⟨_, h0, _⟩ | ⟨gk, curk, rfl, hbk, hnk, hmk, hszk, htk⟩
          · simp at h0
          have hgk := hA2 gk (At.some_.2 rfl)
          simp only [List.length_cons] at hnk b2 hndk
          by_cases hc1 : c2 = 1
          · subst hc1
            obtain rfl : xs = [] := List.eq_nil_of_length_eq_zero (by omega)
            go_wp2_with fail
            go_meet
            refine ⟨op, imm, some ⟨gk, 0, none⟩, [], 0, g, c1, L, rfl, hst.of hnoW (Hub.out 2 _) HSb.out (by simpa using hst.blk.set_ 2 (.slice (some ⟨gk, 0, none⟩) 0 0)) Ints.nil (by simp) ⟨Ho1.out, Ho2.out, by simp⟩, by omega, by omega⟩
          · have d : ((c2 : Int) == 1) = false := by rw [beq_eq_false_iff_ne]; omega
            have hx2 := hst.kds' (Hub.out 2 (.slice (some ⟨gk, 1, none⟩) xs.length (c2 - 1)))
            have HX : Hid (Ints (W3.setCell ⟨bn, 2, none⟩ (.slice (some ⟨gk, 1, none⟩) xs.length (c2 - 1))) (fun k => k ≠ bn ∧ k ≠ g) (some ⟨gk, 1, none⟩) xs) := by
              refine .inr ⟨gk, 1, rfl, by omega, fun j hj => ?_⟩
              have hj' : j < xs.length := by simpa using hj
              obtain ⟨b', o', e, _, _, hc⟩ := hx2.at_ (k := j + 1) (by simpa using hj')
              injection e with e; injection e with e1 e2; subst e1; subst e2
              rw [Nat.add_comm 1 j, ← Nat.zero_add (j + 1), hc]
              simp
            clear hx2
            go_wp2_with fail
            go_meet
            refine ⟨op, imm, some ⟨gk, 1, none⟩, xs, c2 - 1, g, c1, L, rfl, hst.of hnoW (Hub.out 2 _) HSb.out (by simpa using hst.blk.set_ 2 (.slice (some ⟨gk, 1, none⟩) xs.length (c2 - 1))) HX.out (by omega) ⟨Ho1.out, Ho2.out, by dsimp only; omega⟩, by omega, by omega⟩
      · have hki := hst.kds
        obtain ⟨_, cs', ho', hcs'⟩ := hst.no
        go_wp2_with (at_builtin; refine wpList_app rfl rfl T_nodes rfl (ho'.alloc _) rfl (Sl.new _ _ _) rfl (by simp [Value.oneCell']) (by simp only [maxLen]; omega) (by omega) ?_; intro A8 c8 w8 ho8 hu8 hat8)
        go_meet
        have hst8 := hst.snoc hcs' ho8 hu8 (fun k hk => (hat8 k hk).imp id (fun e => by simp at e; exact e))
        rcases ho8.cases with ⟨_, h0, _⟩ | ⟨g8, cur8, rfl, _⟩
        · omega
        exact ⟨op, imm, A2, kids, c2, g8, c8, L ++ [⟨op, imm, kids⟩], by simp, hst8, by simp, by simp⟩
      · have r1 := Int.emod_nonneg h10 (show (40 : Int) ≠ 0 by omega)
        have r2 := Int.emod_lt_of_pos h10 (show (0 : Int) < 40 by omega)
        go_wp2_with fail
        rw [H10.out]
        refine (C40.out _).mono ?_
        rintro e w4 ⟨rfl, rfl⟩
        generalize h10 % 40 = v at *
        go_wp2_with fail
        go_meet
        have hbk := ((hst.blk.set_ 0 (.int .i64 3)).set_ 1 (.int .i64 v)).set_ 2 (.slice none 0 0)
        refine ⟨3, v, none, [], 0, g, c1, L, rfl, hst.of hnoW (((Upd.refl.setCell (S := (· = bn)) (p := ⟨bn, 0, none⟩) (.inl rfl) _).setCell (p := ⟨bn, 1, none⟩) (.inl rfl) _).setCell (p := ⟨bn, 2, none⟩) (.inl rfl) _) HSb.out (by simpa using hbk) Ints.nil (by simp) ⟨by dsimp only; unfold I64; omega, by dsimp only; unfold I64; omega, by simp⟩, by omega, by omega⟩
      all_goals
        go_wp2_with fail
        go_meet
        exact ⟨op, imm, A2, kids, c2, g, c1, L, rfl, hst, by omega, by omega⟩
    case rest =>
      clear hst hnoW hownK b0 b1 b2 f0 f1 f2 hbl
      obtain ⟨op', imm', KA', kids', kc', g', c', L', rfl, hst, hl1, hl2⟩ := hcut
      have b0 := hst.blk.cell 0
      have b1 := hst.blk.cell 1
      have b2 := hst.blk.cell 2
      obtain ⟨hv, hu9, hok9⟩ := hst.back (i := i) (by omega)
      obtain ⟨_, cs', ho', hcs'⟩ := hst.no
      rcases ho'.cases with ⟨h0, _⟩ | ⟨g2, cur', e, hbk, hnc', _, hsz', _⟩
      · cases h0
      injection e with e
      injection e with e
      subst e
      have hi3 : i * 3 + 2 < cur'.size := by rw [hsz']; omega
      obtain ⟨v0, v1, v2, k0, k1, k2⟩ : ∃ v0 v1 v2, wc.cell? ⟨g', i * 3, none⟩ = some v0 ∧ wc.cell? ⟨g', i * 3 + 1, none⟩ = some v1 ∧ wc.cell? ⟨g', i * 3 + 2, none⟩ = some v2 :=
        ⟨cur'[i * 3], cur'[i * 3 + 1], cur'[i * 3 + 2], by rw [hbk.cell]; simp, by rw [hbk.cell]; simp, by rw [hbk.cell]; simp⟩
      have t0 := hbk.frozen (i * 3)
      have t1 := hbk.frozen (i * 3 + 1)
      have t2 := hbk.frozen (i * 3 + 2)
      have hiL : i < L'.length := by omega
      have hbg := hbk.lt
      go_wp2_with fail
      go_ret
      exact ⟨some ⟨g', 0, none⟩, c', L'.set i ⟨op', imm', kids'⟩, by rw [List.length_set]; rfl, hv, by rw [List.length_set]; omega, hok9, by rw [List.length_set]; exact ho'.le, hu9⟩
end Go.Proofs.Ytigambcefdeaoaa
