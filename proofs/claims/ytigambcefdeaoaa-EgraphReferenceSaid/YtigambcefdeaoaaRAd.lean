/-
  The reference's Add: what it finds, and a node more in the reference's graph.
  What the reference's Add does.
-/
import Derived.Test.YtigambcefdeaoaaRGr
import Derived.Test.YtigambcefdeaoaaAddA
import Derived.Test.YtigambcefdeaoaaRUni
import Derived.Test.YtigambcefdeaoaaSortC
namespace Go.Proofs.Ytigambcefdeaoaa
open Go.RowKit

theorem lookI_some {G : EG} (hg : GWf G) {nd : Nd} (hok : NdOk nd) (h : addSort G nd ≠ 0) {i : Nat} (hs : sameAt G nd = some i) : lookI G.L nd = (i : Int) := by
  obtain ⟨hi, he⟩ := same_some hg hok h hs
  refine lookF_yes hi ?_ (by rw [getD_of hi]; exact sameNd_iff.2 he)
  unfold lookF
  refine find_range_none.2 fun k hk => ?_
  rw [getD_of (by omega)]
  cases e : sameNd (G.L[k]'(by omega)) nd with
  | false => rfl
  | true => exact absurd ((sameNd_iff.1 e).trans he.symm) (hg.wf.nodup k i (by omega) hi hk)
theorem lookI_none {G : EG} {nd : Nd} (hs : sameAt G nd = none) : lookI G.L nd = -1 := by
  have : lookF G.L nd G.L.length = none := by
    unfold lookF
    refine find_range_none.2 fun k hk => ?_
    rw [getD_of hk]
    cases e : sameNd G.L[k] nd with
    | false => rfl
    | true => exact absurd (sameNd_iff.1 e) (same_none hs hk)
  unfold lookI
  rw [this]
theorem EG.Wf.cg_add {G : EG} (h : G.Wf) {nd : Nd} (hk : okKids G.L.length nd.kids = true) {i : Nat} (hi : i < G.L.length) : decide (Cg (G.L.length + 1) G.c G.L[i] nd) = cgB G.c (G.L.getD i nd0) nd := by
  rw [Bool.eq_iff_iff, decide_eq_true_iff, cgB_iff, getD_of hi]
  refine ⟨fun hc => ⟨hc.1, hc.2.1, hc.2.2.2.2⟩, fun hc => ⟨hc.1, hc.2.1, okKids_mono (h.kids i hi) (by omega), okKids_mono hk (by omega), hc.2.2⟩⟩
theorem older_to {G : EG} {nd : Nd} {i : Nat} (hi : i < G.L.length) (hc : cgB G.c (G.L.getD i nd0) nd = true) (hn : ∀ k, k < i → cgB G.c (G.L.getD k nd0) nd = false) : olderOf G nd = some i := find_range.2 ⟨hi, hc, hn⟩
theorem older_end {G : EG} {nd : Nd} (hn : ∀ k, k < G.L.length → cgB G.c (G.L.getD k nd0) nd = false) : olderOf G nd = none := find_range_none.2 hn

theorem RM.add {w w1 : World} {ρ : Nat → Role} {rb : Nat} {a : RA} {G : EG} (h : RM w ρ rb a G) {nd : Nd} {cs : List Value} {KA L3 f3 s3 : Option Addr} {kc lc3 fc3 sc3 bl bf bs : Nat}
    (hcs : NodeCells w (fun k => ρ k = .kids) cs G.L) (hl : ∀ k, At a.l k → ρ k = .nodes) (hcl : G.c G.L.length = G.L.length)
    (hb : Blk w1 rb 61 #[.slice L3 (G.L.length + 1) lc3, .slice a.t G.T.length a.tc, .slice f3 (G.L.length + 1) fc3, .slice s3 (G.L.length + 1) sc3])
    (hL : Own w1 24 3 L3 (G.L.length + 1) lc3 (cs ++ [.int .i64 nd.op, .int .i64 nd.imm, .slice KA nd.kids.length kc])) (hf : Own w1 3 1 f3 (G.L.length + 1) fc3 (icells (clL G.L G.c) ++ [.int .i64 (G.L.length : Int)]))
    (hs : Own w1 3 1 s3 (G.L.length + 1) sc3 (icells (sortsF G.L) ++ [.int .i64 (addSort G nd)])) (u : Upd (fun k => k = rb ∨ At a.l k ∨ At a.f k ∨ At a.s k) w w1)
    (hL3 : ∀ k, At L3 k → At a.l k ∨ k = bl) (hf3 : ∀ k, At f3 k → At a.f k ∨ k = bf) (hs3 : ∀ k, At s3 k → At a.s k ∨ k = bs) (hK : ∀ k, At KA k → w.heap.size ≤ k ∧ k < bl) (o1 : w.heap.size ≤ bl) (o2 : bl < bf) (o3 : bf < bs)
    (hk : Ints w1 (At KA) KA nd.kids) (hkw : ∀ k, At KA k → k < w1.heap.size) (hkc : nd.kids.length ≤ kc) : RNext w ρ rb w1 (G.add nd) := by
  classical
  have hme := h.me
  have hfs := h.f.2
  have hss := h.s.2
  have hS : ∀ k, (k = rb ∨ At a.l k ∨ At a.f k ∨ At a.s k) → ρ k = .me ∨ ρ k = .nodes ∨ ρ k = .find ∨ ρ k = .sorts := fun k hk => by
    rcases hk with rfl | hk | hk | hk
    · exact .inl hme
    · exact .inr (.inl (hl k hk))
    · exact .inr (.inr (.inl (hfs k hk)))
    · exact .inr (.inr (.inr (hss k hk)))
  have hne : ∀ (r : Role), r ≠ .me → r ≠ .nodes → r ≠ .find → r ≠ .sorts → ∀ k, (k = rb ∨ At a.l k ∨ At a.f k ∨ At a.s k) → ρ k ≠ r := fun r h1 h2 h3 h4 k hk e => by
    rcases hS k hk with q | q | q | q
    · exact h1 (by rw [← e, q])
    · exact h2 (by rw [← e, q])
    · exact h3 (by rw [← e, q])
    · exact h4 (by rw [← e, q])
  have lt : ∀ k r, ρ k = r → r ≠ .no → k < w.heap.size := fun k r e hr => h.bnd k (by rw [e]; exact hr)
  obtain ⟨ρ', Hρ⟩ : ∃ ρ' : Nat → Role, ρ' = fun k => if k < w.heap.size then ρ k else if At L3 k then .nodes else if At f3 k then .find else if At s3 k then .sorts else if At KA k then .kids else .no := ⟨_, rfl⟩
  have old : ∀ k, k < w.heap.size → ρ' k = ρ k := fun k hk => by rw [Hρ]; exact if_pos hk
  have rL : ∀ k, At L3 k → ρ' k = .nodes := fun k hk => by
    rcases hL3 k hk with q | q
    · rw [old k (lt k _ (hl k q) (by simp))]; exact hl k q
    · rw [Hρ]; dsimp only; rw [if_neg (by omega), if_pos hk]
  have rf : ∀ k, At f3 k → ρ' k = .find := fun k hk => by
    rcases hf3 k hk with q | q
    · rw [old k (lt k _ (hfs k q) (by simp))]; exact hfs k q
    · rw [Hρ]; dsimp only
      rw [if_neg (by omega), if_neg (fun z => (hL3 k z).elim (fun z => by have := lt k _ (hl k z) (by simp); omega) (fun z => by omega)), if_pos hk]
  have rs : ∀ k, At s3 k → ρ' k = .sorts := fun k hk => by
    rcases hs3 k hk with q | q
    · rw [old k (lt k _ (hss k q) (by simp))]; exact hss k q
    · rw [Hρ]; dsimp only
      rw [if_neg (by omega), if_neg (fun z => (hL3 k z).elim (fun z => by have := lt k _ (hl k z) (by simp); omega) (fun z => by omega)), if_neg (fun z => (hf3 k z).elim (fun z => by have := lt k _ (hfs k z) (by simp); omega) (fun z => by omega)), if_pos hk]
  have rk : ∀ k, At KA k → ρ' k = .kids := fun k hk => by
    have := hK k hk
    rw [Hρ]; dsimp only
    rw [if_neg (by omega), if_neg (fun z => (hL3 k z).elim (fun z => by have := lt k _ (hl k z) (by simp); omega) (fun z => by omega)), if_neg (fun z => (hf3 k z).elim (fun z => by have := lt k _ (hfs k z) (by simp); omega) (fun z => by omega)), if_neg (fun z => (hs3 k z).elim (fun z => by have := lt k _ (hss k z) (by simp); omega) (fun z => by omega)), if_pos hk]
  have hu := u.size
  have hrb := h.bnd rb (by rw [hme]; simp)
  have hLl : (G.add nd).L.length = G.L.length + 1 := by simp [EG.add]
  refine ⟨ρ', ⟨L3, lc3, a.t, a.tc, f3, fc3, s3, sc3⟩, ⟨fun k hk' => ?_, by rw [old rb hrb]; exact hme, ?_, ⟨cs ++ [.int .i64 nd.op, .int .i64 nd.imm, .slice KA nd.kids.length kc], ?_, ?_, rL⟩, ⟨?_, rs⟩, ⟨?_, rf⟩, ?_⟩, u.mono (fun k _ hk => ⟨hne _ (by simp) (by simp) (by simp) (by simp) k hk, hne _ (by simp) (by simp) (by simp) (by simp) k hk⟩), old⟩
  · by_cases q : k < w.heap.size
    · omega
    · rw [Hρ] at hk'
      dsimp only at hk'
      rw [if_neg q] at hk'
      by_cases e : At L3 k
      · exact hL.lt e
      by_cases e2 : At f3 k
      · exact hf.lt e2
      by_cases e3 : At s3 k
      · exact hs.lt e3
      by_cases e4 : At KA k
      · exact hkw k e4
      · rw [if_neg e, if_neg e2, if_neg e3, if_neg e4] at hk'; exact absurd rfl hk'
  · unfold RA.cells; rw [hLl]; exact hb
  · rw [hLl]; exact hL
  · exact (hcs.mono u (fun k _ hk hS => hne _ (by simp) (by simp) (by simp) (by simp) k hS hk) (fun k hk e => by rw [old k hk]; exact e)).snoc (hk.mono (fun k _ hk => rk k hk)) hkc
  · show Own w1 3 1 s3 (sortsF (G.add nd).L).length sc3 _
    rw [sortsF_len, hLl]
    show Own w1 3 1 s3 _ sc3 (icells (sortsF (G.L ++ [nd])))
    rw [sortsF_snoc, icells_snoc]
    exact hs
  · rw [clL_len, hLl]
    show Own w1 3 1 f3 _ fc3 (icells (clL (G.L ++ [nd]) G.c))
    rw [clL_snoc hcl, icells_snoc]
    exact hf
  · exact h.t.upd u (fun k _ hk => ⟨hne _ (by simp) (by simp) (by simp) (by simp) k hk, hne _ (by simp) (by simp) (by simp) (by simp) k hk⟩) old
end Go.Proofs.Ytigambcefdeaoaa

namespace Go.Proofs.Ytigambcefdeaoaa
open Go.RowKit

theorem RL.more {w w8 : World} {K : Nat → Prop} {L : List Nd} {cs : List Value} {nd : Nd} {KA A8 : Option Addr} {kc c8 n : Nat} (hc : NodeCells w K cs L) (hn : L.length = n)
    (hk : Ints w (· < w.heap.size) KA nd.kids) (hkc : nd.kids.length ≤ kc) (u : Upd Non w w8) (hA : ∀ k, At A8 k → w.heap.size ≤ k) (ho : Own w8 24 3 A8 (n + 1) c8 (cs ++ [.int .i64 nd.op, .int .i64 nd.imm, .slice KA nd.kids.length kc])) :
    NodesV w8 (fun _ => True) A8 (L ++ [nd]) := by
  have h1 := (hc.mono (K' := fun k => k < w.heap.size) (Upd.refl (S := Non)) (fun _ _ _ f => f) (fun k hk _ => hk)).snoc (nd := nd) hk hkc
  have h2 := h1.mono (K' := fun k => (k < w.heap.size) ∧ ¬ At A8 k) u (fun _ _ _ f => f) (fun k _ hk => ⟨hk, fun q => by have := hA k q; have : k < w.heap.size := hk; omega⟩)
  exact NodesO.view (G := fun k => k < w.heap.size) (n := n + 1) (c := c8) ⟨by simp [hn], _, ho, h2⟩ (fun _ _ => trivial) (fun _ _ _ => trivial)

set_option maxRecDepth 100000 in
set_option maxHeartbeats 4000000 in
theorem rAdd_c (w : World) (ρ : Nat → Role) (rb : Nat) (a : RA) (G : EG) (h : RM w ρ rb a G) (hg : GWf G) (hT : G.T.length ≤ 900000000) (op imm : Int) (kids : List Int) (KA : Option Addr) (kc : Nat) (F : Nat → Prop) (hk : Ints w F KA kids)
    (hok : NdOk ⟨op, imm, kids⟩) (hkl : kids.length ≤ 100000000000) :
    Calls Try.prog 28 #[gp rb, .agg #[.int .i64 op, .int .i64 imm, .slice KA kids.length kc]] w fun e w' => e = .returned (addRet G ⟨op, imm, kids⟩) ∧ RNext w ρ rb w' (addG G ⟨op, imm, kids⟩) := by
  obtain ⟨W, HW⟩ := nm (w.alloc (.cells #[.int .i64 op, .int .i64 imm, .slice KA kids.length kc] 24))
  have hU : Upd Non w W := by rw [← HW.out]; exact Upd.refl.alloc _
  have hb : Blk W w.heap.size 24 #[.int .i64 op, .int .i64 imm, .slice KA kids.length kc] := by rw [← HW.out]; exact Blk.new _ _ _
  have hkW := hk.upd hU (fun _ _ _ f => f)
  have e0 := HW.out
  have HH := Lib.hid h
  have HGW := Lib.hid hg
  have HOK := Lib.hid hok
  have hrw := h.blk.lt
  have hbl := hb.lt
  have hsz := hU.size
  have k2 : W.cell? ⟨w.heap.size, 2, none⟩ = some (.slice KA kids.length kc) := hb.cell 2
  unfold gp
  clear h hg hk hok
  go_enter Try.func28, Try.ntmps28
  go_wp2_with (at_builtin; refine wpList_app rfl rfl T_ints' rfl (own_empty W 3 1) rfl (hkW.upd (Upd.refl.alloc _ (S := Non)) (fun _ _ _ f => f)) (by simp) (icells_one kids) (by simp only [maxLen]; omega) (by omega) ?_; intro A1 c1_ w4 ho4 hu4 hat4; rw [List.nil_append] at ho4; simp only [Nat.zero_add] at ho4 ⊢; have b4 := (hb.alloc (.cells #[] 3)).upd hu4 (fun q => by rw [At.some_] at q; omega); have f4 := b4.frozen 2; have k4 : w4.cell? ⟨w.heap.size, 2, none⟩ = some (.slice KA kids.length kc) := b4.cell 2; have uA := updCell w4 w.heap.size 2 (.slice A1 kids.length c1_); have b4' := b4.set_ 2 (.slice A1 kids.length c1_); obtain ⟨wA, HA⟩ := nm (w4.setCell ⟨w.heap.size, 2, none⟩ (.slice A1 kids.length c1_)); have eA := HA.out; rw [HA.out] at uA b4'; have blA := b4'.lt)
  have hbA : Blk wA w.heap.size 24 #[.int .i64 op, .int .i64 imm, .slice A1 kids.length c1_] := b4'
  have hUA : Upd Non w wA := ((hU.alloc (.cells #[] 3)).trans hu4 (fun k hk q => by rw [At.some_] at q; omega)).trans uA (fun k hk q => by omega)
  have hA1 : ∀ k, At A1 k → W.heap.size ≤ k := fun k hk => (hat4 k hk).elim (fun q => by rw [At.some_] at q; omega) (fun q => by simp at q; omega)
  have hoA : Own wA 3 1 A1 kids.length c1_ (icells kids) := ho4.upd uA (fun k hk q => by have := hA1 k hk; omega)
  have hMA := HH.out.non hUA
  have HA1 := Lib.hid hA1
  have HUA := Lib.hid hUA
  have HMA := Lib.hid hMA
  clear b4 f4 k4 b4' ho4 hu4 hat4 uA k2 hA1
  have hsm := HGW.out.wf.small
  have c0A := hMA.c0
  have p0 := hbA.cell 0
  have p1 := hbA.cell 1
  have p2 := hbA.cell 2
  clear hMA
  go_wp2_with fail
  go_cut [6] (fun s6 wx => s6 = .int .i64 (addSort G ⟨op, imm, kids⟩) ∧ Upd Non wA wx)
  case first =>
    obtain ⟨wD, HwD⟩ := nm wA.drew
    have uD : Upd Non wA wD := by rw [← HwD.out]; exact Upd.refl.drew
    have hMD := HMA.out.non uD
    have hoD := hoA.upd uD (fun _ _ f => f)
    obtain ⟨cs, hSl, hone, hnc⟩ := hMD.lv.cells
    have hcsl : cs.length = G.L.length * 3 := by have := hnc.1; omega
    have hS : ∀ w', Upd Non wD w' → w'.cell? ⟨rb, 0, none⟩ = some (.slice a.l G.L.length a.lc) ∧ w'.cell? ⟨w.heap.size, 0, none⟩ = some (.int .i64 op) ∧ w'.cell? ⟨w.heap.size, 1, none⟩ = some (.int .i64 imm) ∧ w'.cell? ⟨w.heap.size, 2, none⟩ = some (.slice A1 kids.length c1_) := fun w' u => by
      have u2 := uD.then_non u
      exact ⟨cell_upd c0A u2 (fun f => f), cell_upd p0 u2 (fun f => f), cell_upd p1 u2 (fun f => f), cell_upd p2 u2 (fun f => f)⟩
    have CS := Lib.hid (fun (w8 : World) (A8 : Option Addr) (c8 : Nat) (u8 : Upd Non wD w8) (hA8 : ∀ k, At A8 k → wD.heap.size ≤ k) (ho8 : Own w8 24 3 A8 (G.L.length + 1) c8 (cs ++ [.int .i64 op, .int .i64 imm, .slice A1 kids.length c1_])) =>
      show Calls Try.prog 53 #[.slice A8 (G.L.length + 1) c8, .int .i64 (G.L.length : Int)] w8 fun e w' => e = .returned (.int .i64 (addSort G ⟨op, imm, kids⟩)) ∧ Upd Non w8 w' by
        have hNV := RL.more (nd := ⟨op, imm, kids⟩) hnc rfl (hoD.ints.mono (fun k hk _ => hk)) hoD.le u8 hA8 ho8
        have hlen : (G.L ++ [(⟨op, imm, kids⟩ : Nd)]).length = G.L.length + 1 := by simp
        have := sort_c w8 _ A8 c8 (G.L ++ [⟨op, imm, kids⟩]) G.L.length hNV (by rw [hlen]; exact ho8.le) (by rw [hlen]; omega) (by rw [hlen]; omega) (fun x hx => by
          rcases List.mem_append.1 hx with q | q
          · obtain ⟨i, hi, rfl⟩ := List.mem_iff_getElem.1 q
            have := HGW.out.klen hi; omega
          · rw [List.mem_singleton.1 q]; exact hkl)
        rw [hlen, List.take_of_length_le (by rw [hlen]; exact Nat.le_refl _), addSort_get] at this
        exact this)
    have hHone := Lib.hid hone
    have HSl := Lib.hid hSl
    have hszD := uD.size
    have hrD : rb < wD.heap.size := by have := hUA.size; omega
    clear hSl hone hnc hMD hoD
    refine wp_region_held_drew (S := fun w' => w'.cell? ⟨rb, 0, none⟩ = some (.slice a.l G.L.length a.lc) ∧ w'.cell? ⟨w.heap.size, 0, none⟩ = some (.int .i64 op) ∧ w'.cell? ⟨w.heap.size, 1, none⟩ = some (.int .i64 imm) ∧ w'.cell? ⟨w.heap.size, 2, none⟩ = some (.slice A1 kids.length c1_)) (by kernel_rfl) (by rw [HwD.out]; exact hS _ Upd.refl) (fun hHeld => ?_)
    rw [HwD.out] at hHeld ⊢
    refine wpAnyH_take (i := 1) (v := ?_) rfl (by kernel_rfl) (by kernel_rfl) (by kernel_rfl) (fun _ _ _ h => h) (Or.inl ⟨by rfl, ?_⟩) (by assumption) ?_
    rotate_left
    · intro w hSw; (try dsimp only at hSw); go_simp; try with_reducible rfl
    try simp only [put_y]
    try simp only [Act.put]
    try simp only [put_z]
    refine wpAnyH_take (i := 2) (v := ?_) rfl (by kernel_rfl) (by kernel_rfl) (by kernel_rfl) (fun _ _ _ h => h) (Or.inl ⟨by rfl, ?_⟩) (by assumption) ?_
    rotate_left
    · intro w hSw; (try dsimp only at hSw); go_simp; try with_reducible rfl
    try simp only [put_y]
    try simp only [Act.put]
    try simp only [put_z]
    refine wpAnyH_take (i := 3) (v := ?_) rfl (by kernel_rfl) (by kernel_rfl) (by kernel_rfl) (fun _ _ _ h => h) (Or.inl ⟨by rfl, ?_⟩) (by assumption) ?_
    rotate_left
    · intro w hSw; (try dsimp only at hSw); go_simp; try with_reducible rfl
    try simp only [put_y]
    try simp only [Act.put]
    try simp only [put_z]
    refine wpAnyH_take (i := 4) (v := ?_) rfl (by kernel_rfl) (by kernel_rfl) (by kernel_rfl) (fun _ _ _ h => h) (Or.inl ⟨by rfl, ?_⟩) (by assumption) ?_
    rotate_left
    · intro w hSw; (try dsimp only at hSw); go_simp; try with_reducible rfl
    try simp only [put_y]
    try simp only [Act.put]
    try simp only [put_z]
    refine wpAnyH_take (i := 6) (v := ?_) rfl (by kernel_rfl) (by kernel_rfl) (by kernel_rfl) (fun _ _ _ h => h) (Or.inl ⟨by rfl, ?_⟩) (by assumption) ?_
    rotate_left
    · intro w hSw; (try dsimp only at hSw); go_simp; try with_reducible rfl
    try simp only [put_y]
    try simp only [Act.put]
    try simp only [put_z]
    refine wpAnyH_take (i := 9) (v := ?_) rfl (by kernel_rfl) (by kernel_rfl) (by kernel_rfl) (fun _ _ _ h => h) (Or.inl ⟨by rfl, ?_⟩) (by assumption) ?_
    rotate_left
    · intro w hSw; (try dsimp only at hSw); go_simp; try with_reducible rfl
    try simp only [put_y]
    try simp only [Act.put]
    try simp only [put_z]
    refine wpAnyH_take (i := 10) (v := ?_) rfl (by kernel_rfl) (by kernel_rfl) (by kernel_rfl) (fun _ _ _ h => h) (Or.inl ⟨by rfl, ?_⟩) (by assumption) ?_
    rotate_left
    · intro w hSw; (try dsimp only at hSw); go_simp; try with_reducible rfl
    try simp only [put_y]
    try simp only [Act.put]
    try simp only [put_z]
    refine wpAnyH_take (i := 11) (v := ?_) rfl (by kernel_rfl) (by kernel_rfl) (by kernel_rfl) (fun _ _ _ h => h) (Or.inl ⟨by rfl, ?_⟩) (by assumption) ?_
    rotate_left
    · intro w hSw; (try dsimp only at hSw); go_simp; try with_reducible rfl
    try simp only [put_y]
    try simp only [Act.put]
    try simp only [put_z]
    refine wpAnyH_take (i := 12) (v := ?_) rfl (by kernel_rfl) (by kernel_rfl) (by kernel_rfl) (fun _ _ _ h => h) (Or.inl ⟨by rfl, ?_⟩) (by assumption) ?_
    rotate_left
    · intro w hSw; (try dsimp only at hSw); go_simp; try with_reducible rfl
    try simp only [put_y]
    try simp only [Act.put]
    try simp only [put_z]
    refine wpAnyH_take (i := 13) (v := ?_) rfl (by kernel_rfl) (by kernel_rfl) (by kernel_rfl) (fun _ _ _ h => h) (Or.inl ⟨by rfl, ?_⟩) (by assumption) ?_
    rotate_left
    · intro w hSw; (try dsimp only at hSw); go_simp; try with_reducible rfl
    try simp only [put_y]
    try simp only [Act.put]
    try simp only [put_z]
    refine wpAnyH_ready (rs := [0, 7]) (by kernel_rfl) (by simp) ?_
    refine AllReadyH.cons rfl (fun K hK => ?_) (AllReadyH.cons rfl (fun K hK => ?_) AllReadyH.nil)
    · go_simp
      refine hK.out _ _ ?_ (fun hHeld => ?_)
      · exact hS _ (Upd.refl.alloc _)
      clear hK K
      try simp only [put_y]
      try simp only [Act.put]
      try simp only [put_z]
      refine wpAnyH_ready (rs := [5, 7]) (by kernel_rfl) (by simp) ?_
      refine AllReadyH.cons rfl (fun K hK => ?_) (AllReadyH.cons rfl (fun K hK => ?_) AllReadyH.nil)
      · refine step_app rfl rfl T_nodes rfl (own_empty wD 24 3) rfl (HSl.out.upd (Upd.refl.alloc _ (S := Non)) (fun _ _ _ f => f)) (by omega) hHone.out (by simp only [maxLen]; omega) (by omega) ?_
        intro A5 c5 w5 ho5 hu5 hat5
        rw [List.nil_append] at ho5
        simp only [Nat.zero_add] at ho5 ⊢
        have u5 : Upd Non wD w5 := (Upd.refl.alloc (.cells #[] 24)).trans hu5 (fun k hk q => by rw [At.some_] at q; omega)
        have hA5 : ∀ k, At A5 k → wD.heap.size ≤ k := fun k hk => (hat5 k hk).elim (fun q => by rw [At.some_] at q; omega) (fun q => by simp at q; omega)
        refine hK.out _ _ ?_ (fun hHeld => ?_)
        · exact hS _ u5
        clear hK K
        try simp only [put_y]
        try simp only [Act.put]
        try simp only [put_z]
        refine wpAnyH_ready (rs := [7]) (by kernel_rfl) (by simp) ?_
        refine AllReadyH.cons rfl (fun K hK => ?_) AllReadyH.nil
        go_simp
        have u7 := u5.alloc (.cells #[.int .i64 op, .int .i64 imm, .slice A1 kids.length c1_] 24)
        refine hK.out _ _ ?_ (fun hHeld => ?_)
        · exact hS _ u7
        clear hK K
        try simp only [put_y]
        try simp only [Act.put]
        try simp only [put_z]
        have hO := ho5.alloc (.cells #[.int .i64 op, .int .i64 imm, .slice A1 kids.length c1_] 24)
        have hN := Sl.new w5 24 [.int .i64 op, .int .i64 imm, .slice A1 kids.length c1_]
        refine wpAnyH_ready (rs := [8]) (by kernel_rfl) (by simp) ?_
        refine AllReadyH.cons rfl (fun K hK => ?_) AllReadyH.nil
        refine step_app rfl rfl T_nodes rfl hO rfl hN rfl (by simp [Value.oneCell']) (by simp only [maxLen]; omega) (by omega) ?_
        intro A8 c8 w8 ho8 hu8 hat8
        have hA8 : ∀ k, At A8 k → wD.heap.size ≤ k := fun k hk => (hat8 k hk).elim (fun q => hA5 k q) (fun q => by have := u7.size; omega)
        have u8 : Upd Non wD w8 := u7.trans hu8 (fun k hk q => by have := hA5 k q; omega)
        refine hK.out _ _ ?_ (fun hHeld => ?_)
        · exact hS _ u8
        clear hK K
        try simp only [put_y]
        try simp only [Act.put]
        try simp only [put_z]
        refine wpAnyH_ready (rs := [14]) (by kernel_rfl) (by simp) ?_
        refine AllReadyH.cons rfl (fun K hK => ?_) AllReadyH.nil
        go_simp
        refine (CS.out w8 A8 c8 u8 hA8 ho8).mono ?_
        rintro e w9 ⟨rfl, hu9⟩
        go_wp2_with fail
        refine hK.out _ _ ?_ (fun hHeld => ?_)
        · exact hS _ (u8.then_non hu9)
        clear hK K
        try simp only [put_y]
        try simp only [Act.put]
        try simp only [put_z]
        refine wpAnyH_take (i := 15) (v := ?_) rfl (by kernel_rfl) (by kernel_rfl) (by kernel_rfl) (fun _ _ _ h => h) (Or.inl ⟨by rfl, ?_⟩) (by assumption) ?_
        rotate_left
        · intro w hSw; (try dsimp only at hSw); go_simp; try with_reducible rfl
        try simp only [put_y]
        try simp only [Act.put]
        try simp only [put_z]
        refine wpAnyH_done (by kernel_rfl) ?_ _
        go_wp2_with fail
        go_meet
        exact ⟨rfl, (uD.then_non u8).then_non hu9⟩
      · go_simp
        have u2 : Upd Non wD ((wD.alloc (.cells #[] 24)).alloc (.cells #[.int .i64 op, .int .i64 imm, .slice A1 kids.length c1_] 24)) := (Upd.refl.alloc _).alloc _
        refine hK.out _ _ ?_ (fun hHeld => ?_)
        · exact hS _ u2
        clear hK K
        try simp only [put_y]
        try simp only [Act.put]
        try simp only [put_z]
        refine wpAnyH_ready (rs := [5]) (by kernel_rfl) (by simp) ?_
        refine AllReadyH.cons rfl (fun K hK => ?_) AllReadyH.nil
        refine step_app rfl rfl T_nodes rfl ((own_empty wD 24 3).alloc (.cells #[.int .i64 op, .int .i64 imm, .slice A1 kids.length c1_] 24)) rfl (HSl.out.upd u2 (fun _ _ _ f => f)) (by omega) hHone.out (by simp only [maxLen]; omega) (by omega) ?_
        intro A5 c5 w5 ho5 hu5 hat5
        rw [List.nil_append] at ho5
        simp only [Nat.zero_add] at ho5 ⊢
        have u5 : Upd Non wD w5 := u2.trans hu5 (fun k hk q => by rw [At.some_] at q; omega)
        have hA5 : ∀ k, At A5 k → wD.heap.size ≤ k := fun k hk => (hat5 k hk).elim (fun q => by rw [At.some_] at q; omega) (fun q => by simp at q; omega)
        refine hK.out _ _ ?_ (fun hHeld => ?_)
        · exact hS _ u5
        clear hK K
        try simp only [put_y]
        try simp only [Act.put]
        try simp only [put_z]
        have u7 := u5
        have hO := ho5
        have hN := (Sl.new2 wD (.cells #[] 24) 24 [.int .i64 op, .int .i64 imm, .slice A1 kids.length c1_]).upd hu5 (fun k _ q z => by rw [At.some_] at z; omega)
        refine wpAnyH_ready (rs := [8]) (by kernel_rfl) (by simp) ?_
        refine AllReadyH.cons rfl (fun K hK => ?_) AllReadyH.nil
        refine step_app rfl rfl T_nodes rfl hO rfl hN rfl (by simp [Value.oneCell']) (by simp only [maxLen]; omega) (by omega) ?_
        intro A8 c8 w8 ho8 hu8 hat8
        have hA8 : ∀ k, At A8 k → wD.heap.size ≤ k := fun k hk => (hat8 k hk).elim (fun q => hA5 k q) (fun q => by have := u7.size; omega)
        have u8 : Upd Non wD w8 := u7.trans hu8 (fun k hk q => by have := hA5 k q; omega)
        refine hK.out _ _ ?_ (fun hHeld => ?_)
        · exact hS _ u8
        clear hK K
        try simp only [put_y]
        try simp only [Act.put]
        try simp only [put_z]
        refine wpAnyH_ready (rs := [14]) (by kernel_rfl) (by simp) ?_
        refine AllReadyH.cons rfl (fun K hK => ?_) AllReadyH.nil
        go_simp
        refine (CS.out w8 A8 c8 u8 hA8 ho8).mono ?_
        rintro e w9 ⟨rfl, hu9⟩
        go_wp2_with fail
        refine hK.out _ _ ?_ (fun hHeld => ?_)
        · exact hS _ (u8.then_non hu9)
        clear hK K
        try simp only [put_y]
        try simp only [Act.put]
        try simp only [put_z]
        refine wpAnyH_take (i := 15) (v := ?_) rfl (by kernel_rfl) (by kernel_rfl) (by kernel_rfl) (fun _ _ _ h => h) (Or.inl ⟨by rfl, ?_⟩) (by assumption) ?_
        rotate_left
        · intro w hSw; (try dsimp only at hSw); go_simp; try with_reducible rfl
        try simp only [put_y]
        try simp only [Act.put]
        try simp only [put_z]
        refine wpAnyH_done (by kernel_rfl) ?_ _
        go_wp2_with fail
        go_meet
        exact ⟨rfl, (uD.then_non u8).then_non hu9⟩
    · go_simp
      refine hK.out _ _ ?_ (fun hHeld => ?_)
      · exact hS _ (Upd.refl.alloc _)
      clear hK K
      try simp only [put_y]
      try simp only [Act.put]
      try simp only [put_z]
      refine wpAnyH_ready (rs := [0]) (by kernel_rfl) (by simp) ?_
      refine AllReadyH.cons rfl (fun K hK => ?_) AllReadyH.nil
      go_simp
      have u2 : Upd Non wD ((wD.alloc (.cells #[.int .i64 op, .int .i64 imm, .slice A1 kids.length c1_] 24)).alloc (.cells #[] 24)) := (Upd.refl.alloc _).alloc _
      refine hK.out _ _ ?_ (fun hHeld => ?_)
      · exact hS _ u2
      clear hK K
      try simp only [put_y]
      try simp only [Act.put]
      try simp only [put_z]
      refine wpAnyH_ready (rs := [5]) (by kernel_rfl) (by simp) ?_
      refine AllReadyH.cons rfl (fun K hK => ?_) AllReadyH.nil
      refine step_app rfl rfl T_nodes rfl (own_empty' (w := wD.alloc (.cells #[.int .i64 op, .int .i64 imm, .slice A1 kids.length c1_] 24)) (g := wD.heap.size + 1) 24 3 (by simp)) rfl (HSl.out.upd u2 (fun _ _ _ f => f)) (by omega) hHone.out (by simp only [maxLen]; omega) (by omega) ?_
      intro A5 c5 w5 ho5 hu5 hat5
      rw [List.nil_append] at ho5
      simp only [Nat.zero_add] at ho5 ⊢
      have u5 : Upd Non wD w5 := u2.trans hu5 (fun k hk q => by rw [At.some_] at q; omega)
      have hA5 : ∀ k, At A5 k → wD.heap.size ≤ k := fun k hk => (hat5 k hk).elim (fun q => by rw [At.some_] at q; omega) (fun q => by simp at q; omega)
      refine hK.out _ _ ?_ (fun hHeld => ?_)
      · exact hS _ u5
      clear hK K
      try simp only [put_y]
      try simp only [Act.put]
      try simp only [put_z]
      have u7 := u5
      have hO := ho5
      have hN := ((Sl.new wD 24 [.int .i64 op, .int .i64 imm, .slice A1 kids.length c1_]).upd (Upd.refl.alloc (.cells #[] 24) (S := Non)) (fun _ _ _ f => f)).upd hu5 (fun k _ q z => by rw [At.some_] at z; omega)
      refine wpAnyH_ready (rs := [8]) (by kernel_rfl) (by simp) ?_
      refine AllReadyH.cons rfl (fun K hK => ?_) AllReadyH.nil
      refine step_app rfl rfl T_nodes rfl hO rfl hN rfl (by simp [Value.oneCell']) (by simp only [maxLen]; omega) (by omega) ?_
      intro A8 c8 w8 ho8 hu8 hat8
      have hA8 : ∀ k, At A8 k → wD.heap.size ≤ k := fun k hk => (hat8 k hk).elim (fun q => hA5 k q) (fun q => by have := u7.size; omega)
      have u8 : Upd Non wD w8 := u7.trans hu8 (fun k hk q => by have := hA5 k q; omega)
      refine hK.out _ _ ?_ (fun hHeld => ?_)
      · exact hS _ u8
      clear hK K
      try simp only [put_y]
      try simp only [Act.put]
      try simp only [put_z]
      refine wpAnyH_ready (rs := [14]) (by kernel_rfl) (by simp) ?_
      refine AllReadyH.cons rfl (fun K hK => ?_) AllReadyH.nil
      go_simp
      refine (CS.out w8 A8 c8 u8 hA8 ho8).mono ?_
      rintro e w9 ⟨rfl, hu9⟩
      go_wp2_with fail
      refine hK.out _ _ ?_ (fun hHeld => ?_)
      · exact hS _ (u8.then_non hu9)
      clear hK K
      try simp only [put_y]
      try simp only [Act.put]
      try simp only [put_z]
      refine wpAnyH_take (i := 15) (v := ?_) rfl (by kernel_rfl) (by kernel_rfl) (by kernel_rfl) (fun _ _ _ h => h) (Or.inl ⟨by rfl, ?_⟩) (by assumption) ?_
      rotate_left
      · intro w hSw; (try dsimp only at hSw); go_simp; try with_reducible rfl
      try simp only [put_y]
      try simp only [Act.put]
      try simp only [put_z]
      refine wpAnyH_done (by kernel_rfl) ?_ _
      go_wp2_with fail
      go_meet
      exact ⟨rfl, (uD.then_non u8).then_non hu9⟩
  case rest =>
  obtain ⟨rfl, hux⟩ := hcut
  have HUX := Lib.hid (HUA.out.then_non hux)
  have hMX := HMA.out.non hux
  have x0 := cell_upd p0 hux (fun f => f)
  have x1 := cell_upd p1 hux (fun f => f)
  have x2 := cell_upd p2 hux (fun f => f)
  have hbX := hbA.upd hux (fun f => f)
  have hblX := hbX.lt
  have hoX := hoA.upd hux (fun _ _ f => f)
  have cX0 := hMX.c0
  have hrX := hMX.blk.lt
  clear p0 p1 p2 c0A
  by_cases hs0 : addSort G ⟨op, imm, kids⟩ = 0
  · have HR : Hid (addRet G ⟨op, imm, kids⟩ = .tuple #[.int .i64 0, .int .i64 1]) := by show _ = _; simp [addRet, addR, hs0]
    have HG : Hid (addG G ⟨op, imm, kids⟩ = G) := by show _ = _; simp [addG, hs0]
    rw [hs0]
    clear hs0
    go_wp2_with fail
    go_ret2
    exact ⟨by rw [HR.out]; rfl, by rw [HG.out]; exact RNext.same HH.out HUX.out⟩
  · have HS0 := Lib.hid hs0
    have hb0 : (addSort G ⟨op, imm, kids⟩ == 0) = false := by simpa using hs0
    obtain ⟨y, Hy⟩ := nm (addSort G ⟨op, imm, kids⟩)
    rw [Hy.out] at hb0 ⊢
    have C3 := Lib.hid (rLookup_c _ ρ rb a G hMX hsm (fun x hx => by obtain ⟨i, hi, rfl⟩ := List.mem_iff_getElem.1 hx; have := HGW.out.klen hi; omega) _ op imm kids A1 c1_ hoX.ints)
    unfold gp at C3
    clear hs0
    cases hsa : sameAt G ⟨op, imm, kids⟩ with
    | some i =>
      have HR : Hid (addRet G ⟨op, imm, kids⟩ = .tuple #[.int .i64 (i : Int), .int .i64 0]) := by show _ = _; simp [addRet, addR, HS0.out, hsa]
      have HG : Hid (addG G ⟨op, imm, kids⟩ = G) := by show _ = _; simp [addG, HS0.out, hsa]
      rw [lookI_some HGW.out HOK.out HS0.out hsa] at C3
      clear hsa
      go_wp2_with fail
      refine C3.out.mono ?_
      rintro e w3 ⟨rfl, hu3⟩
      go_wp2_with fail
      go_ret2
      exact ⟨by rw [HR.out]; rfl, by rw [HG.out]; exact RNext.same HH.out (HUX.out.then_non hu3)⟩
    | none =>
      have HSA := Lib.hid hsa
      rw [lookI_none hsa] at C3
      clear hsa
      go_wp2_with fail
      refine C3.out.mono ?_
      rintro e w3 ⟨rfl, hu3⟩
      have HU3 := Lib.hid (HUX.out.then_non hu3)
      have cX3 := cell_upd cX0 hu3 (fun f => f)
      clear C3 cX0
      by_cases hfull : 2000 ≤ G.L.length
      · have HR : Hid (addRet G ⟨op, imm, kids⟩ = .tuple #[.int .i64 0, .int .i64 8]) := by show _ = _; simp [addRet, addR, HS0.out, HSA.out, hfull]
        have HG : Hid (addG G ⟨op, imm, kids⟩ = G) := by show _ = _; simp [addG, HS0.out, HSA.out, hfull]
        go_wp2_with fail
        go_ret2
        exact ⟨by rw [HR.out]; rfl, by rw [HG.out]; exact RNext.same HH.out HU3.out⟩
      · have HR : Hid (addRet G ⟨op, imm, kids⟩ = .tuple #[.int .i64 (G.L.length : Int), .int .i64 0]) := by show _ = _; simp [addRet, addR, HS0.out, HSA.out, hfull]
        have HG : Hid (addG G ⟨op, imm, kids⟩ = match olderOf G ⟨op, imm, kids⟩ with | none => G.add ⟨op, imm, kids⟩ | some i => (G.add ⟨op, imm, kids⟩).merge (cgStep i G.L.length)) := by show _ = _; unfold addG; rw [if_neg HS0.out, HSA.out]; dsimp only; rw [if_neg hfull]; cases olderOf G ⟨op, imm, kids⟩ <;> rfl
        have x0 := cell_upd x0 hu3 (fun f => f)
        have x1 := cell_upd x1 hu3 (fun f => f)
        have x2 := cell_upd x2 hu3 (fun f => f)
        have hbX := hbX.upd hu3 (fun f => f)
        have hblX := hbX.lt
        have hoX := hoX.upd hu3 (fun _ _ f => f)
        have hrX := Nat.lt_of_lt_of_le hrw HU3.out.size
        go_wp2_with fail
        obtain ⟨wD, HwD⟩ := nm w3.drew
        have uD : Upd Non w3 wD := by rw [← HwD.out]; exact Upd.refl.drew
        have HUD := Lib.hid (HU3.out.then_non uD)
        have hMD := HH.out.non HUD.out
        have cD1 := hMD.c0
        have p0 := cell_upd x0 uD (fun f => f)
        have p1 := cell_upd x1 uD (fun f => f)
        have p2 := cell_upd x2 uD (fun f => f)
        have hbD : Blk wD rb 61 #[.slice a.l G.L.length a.lc, .slice a.t G.T.length a.tc, .slice a.f G.L.length a.fc, .slice a.s G.L.length a.sc] := hMD.blk
        have hrD := hbD.lt
        have hblD : w.heap.size < wD.heap.size := Nat.lt_of_lt_of_le hblX uD.size
        obtain ⟨cs, hto, htc, htr⟩ := HH.out.l
        have htD := hto.upd HUD.out (fun _ _ f => f)
        have hgl : ¬ At a.l rb := fun q => by have e1 := htr rb q; rw [HH.out.me] at e1; cases e1
        have hgf : ¬ At a.f rb := fun q => by have e1 := HH.out.f.2 rb q; rw [HH.out.me] at e1; cases e1
        have hgs : ¬ At a.s rb := fun q => by have e1 := HH.out.s.2 rb q; rw [HH.out.me] at e1; cases e1
        have HTC := Lib.hid htc
        have HTR := Lib.hid htr
        have hll : ¬ At a.l w.heap.size := fun q => by have := hto.lt q; omega
        have HLW : Hid (∀ k, At a.l k → k < w.heap.size) := fun k q => hto.lt q
        have HFW : Hid (∀ k, At a.f k → k < w.heap.size) := fun k q => HH.out.f.1.lt q
        have HSW : Hid (∀ k, At a.s k → k < w.heap.size) := fun k q => HH.out.s.1.lt q
        have q8 : ∀ (w0 w' : World) (T : Nat → Prop), (Upd Non wD w0) → Upd T w0 w' → ¬ T w.heap.size → w'.cell? ⟨w.heap.size, 0, none⟩ = some (.int .i64 op) ∧ w'.cell? ⟨w.heap.size, 1, none⟩ = some (.int .i64 imm) ∧ w'.cell? ⟨w.heap.size, 2, none⟩ = some (.slice A1 kids.length c1_) := fun w0 w' T u0 u hT => ⟨cell_upd (cell_upd p0 u0 (fun f => f)) u hT, cell_upd (cell_upd p1 u0 (fun f => f)) u hT, cell_upd (cell_upd p2 u0 (fun f => f)) u hT⟩
        have hA9 := htD.alloc (.cells #[.int .i64 op, .int .i64 imm, .slice A1 kids.length c1_] 24)
        have hs1 := HUD.out.size
        clear hto htc htr hMD x0 x1 x2 htD
        go_cut [] (fun wx => ∃ (A8 : Option Addr) (c8 : Nat) (w8 : World), Own w8 24 3 A8 (G.L.length + 1) c8 (cs ++ [.int .i64 op, .int .i64 imm, .slice A1 kids.length c1_]) ∧ Upd (At a.l) (wD.alloc (.cells #[.int .i64 op, .int .i64 imm, .slice A1 kids.length c1_] 24)) w8 ∧ (∀ k, At A8 k → At a.l k ∨ k = (wD.alloc (.cells #[.int .i64 op, .int .i64 imm, .slice A1 kids.length c1_] 24)).heap.size) ∧ wx = w8.setCell ⟨rb, 0, none⟩ (.slice A8 (G.L.length + 1) c8))
        case first =>
          refine wp_region_held_drew (S := fun w' => w'.cell? ⟨w.heap.size, 0, none⟩ = some (.int .i64 op) ∧ w'.cell? ⟨w.heap.size, 1, none⟩ = some (.int .i64 imm) ∧ w'.cell? ⟨w.heap.size, 2, none⟩ = some (.slice A1 kids.length c1_)) (by kernel_rfl) (by rw [HwD.out]; exact ⟨p0, p1, p2⟩) (fun hHeld => ?_)
          rw [HwD.out] at hHeld ⊢
          refine wpAnyH_take (i := 0) (v := ?_) rfl (by kernel_rfl) (by kernel_rfl) (by kernel_rfl) (fun _ _ _ h => h) (Or.inl ⟨by rfl, ?_⟩) (by assumption) ?_
          rotate_left
          · intro w hSw; (try dsimp only at hSw); go_simp; try with_reducible rfl
          try simp only [put_y]
          try simp only [Act.put]
          try simp only [put_z]
          refine wpAnyH_take (i := 1) (v := ?_) rfl (by kernel_rfl) (by kernel_rfl) (by kernel_rfl) (fun _ _ _ h => h) (Or.inl ⟨by rfl, ?_⟩) (by assumption) ?_
          rotate_left
          · intro w hSw; (try dsimp only at hSw); go_simp; try with_reducible rfl
          try simp only [put_y]
          try simp only [Act.put]
          try simp only [put_z]
          refine wpAnyH_take (i := 2) (v := ?_) rfl (by kernel_rfl) (by kernel_rfl) (by kernel_rfl) (fun _ _ _ h => h) (Or.inl ⟨by rfl, ?_⟩) (by assumption) ?_
          rotate_left
          · intro w hSw; (try dsimp only at hSw); go_simp; try with_reducible rfl
          try simp only [put_y]
          try simp only [Act.put]
          try simp only [put_z]
          refine wpAnyH_take (i := 3) (v := ?_) rfl (by kernel_rfl) (by kernel_rfl) (by kernel_rfl) (fun _ _ _ h => h) (Or.inl ⟨by rfl, ?_⟩) (by assumption) ?_
          rotate_left
          · intro w hSw; (try dsimp only at hSw); go_simp; try with_reducible rfl
          try simp only [put_y]
          try simp only [Act.put]
          try simp only [put_z]
          refine wpAnyH_take (i := 5) (v := ?_) rfl (by kernel_rfl) (by kernel_rfl) (by kernel_rfl) (fun _ _ _ h => h) (Or.inl ⟨by rfl, ?_⟩) (by assumption) ?_
          rotate_left
          · intro w hSw; (try dsimp only at hSw); go_simp; try with_reducible rfl
          try simp only [put_y]
          try simp only [Act.put]
          try simp only [put_z]
          refine wpAnyH_ready (rs := [4, 6]) (by kernel_rfl) (by simp) ?_
          refine AllReadyH.cons rfl (fun K hK => ?_) (AllReadyH.cons rfl (fun K hK => ?_) AllReadyH.nil)
          · go_simp
            refine hK.out _ _ ?_ (fun hHeld => ?_)
            · exact ⟨p0, p1, p2⟩
            clear hK K
            try simp only [put_y]
            try simp only [Act.put]
            try simp only [put_z]
            refine wpAnyH_ready (rs := [6]) (by kernel_rfl) (by simp) ?_
            refine AllReadyH.cons rfl (fun K hK => ?_) AllReadyH.nil
            go_simp
            refine hK.out _ _ ?_ (fun hHeld => ?_)
            · exact q8 _ _ Non (Upd.refl) (Upd.refl.alloc _) (fun f => f)
            clear hK K
            try simp only [put_y]
            try simp only [Act.put]
            try simp only [put_z]
            refine wpAnyH_ready (rs := [7]) (by kernel_rfl) (by simp) ?_
            refine AllReadyH.cons rfl (fun K hK => ?_) AllReadyH.nil
            refine step_app rfl rfl T_nodes rfl hA9 rfl (Sl.new _ _ _) rfl (by simp [Value.oneCell']) (by simp only [maxLen]; omega) (by omega) ?_
            intro A8 c8 w8 ho8 hu8 hat8
            have hb8 := (hbD.alloc (.cells #[.int .i64 op, .int .i64 imm, .slice A1 kids.length c1_] 24)).upd hu8 hgl
            have k8 := hb8.cell 0
            have f8 := hb8.frozen 0
            have hq8 := q8 _ w8 _ (Upd.refl.alloc _) hu8 hll
            refine hK.out _ _ ?_ (fun hHeld => ?_)
            · exact hq8
            clear hK K
            try simp only [put_y]
            try simp only [Act.put]
            try simp only [put_z]
            refine wpAnyH_take (i := 8) (v := ?_) rfl (by kernel_rfl) (by kernel_rfl) (by kernel_rfl) (fun _ _ _ h => h) (Or.inl ⟨by rfl, ?_⟩) (by assumption) ?_
            rotate_left
            · intro w hSw; (try dsimp only at hSw); go_simp; try with_reducible rfl
            try simp only [put_y]
            try simp only [Act.put]
            try simp only [put_z]
            refine wpAnyH_take (i := 9) (v := ?_) rfl (by kernel_rfl) (by kernel_rfl) (by kernel_rfl) (fun _ _ _ h => h) (Or.inl ⟨by rfl, ?_⟩) (by assumption) ?_
            rotate_left
            · intro w hSw; (try dsimp only at hSw); go_simp; try with_reducible rfl
            try simp only [put_y]
            try simp only [Act.put]
            try simp only [put_z]
            refine wpAnyH_ready (rs := [10]) (by kernel_rfl) (by simp) ?_
            refine AllReadyH.cons rfl (fun K hK => ?_) AllReadyH.nil
            go_simp
            have uC := updCell w8 rb 0 (.slice A8 (G.L.length + 1) c8)
            refine hK.out _ _ ?_ (fun hHeld => ?_)
            · exact ⟨cell_upd hq8.1 uC (by omega), cell_upd hq8.2.1 uC (by omega), cell_upd hq8.2.2 uC (by omega)⟩
            clear hK K
            try simp only [put_y]
            try simp only [Act.put]
            try simp only [put_z]
            refine wpAnyH_done (by kernel_rfl) ?_ _
            go_wp2_with fail
            go_meet
            exact ⟨A8, c8, w8, ho8, hu8, hat8, rfl⟩
          · go_simp
            refine hK.out _ _ ?_ (fun hHeld => ?_)
            · exact q8 _ _ Non (Upd.refl) (Upd.refl.alloc _) (fun f => f)
            clear hK K
            try simp only [put_y]
            try simp only [Act.put]
            try simp only [put_z]
            refine wpAnyH_ready (rs := [4]) (by kernel_rfl) (by simp) ?_
            refine AllReadyH.cons rfl (fun K hK => ?_) AllReadyH.nil
            go_simp
            refine hK.out _ _ ?_ (fun hHeld => ?_)
            · exact q8 _ _ Non (Upd.refl) (Upd.refl.alloc _) (fun f => f)
            clear hK K
            try simp only [put_y]
            try simp only [Act.put]
            try simp only [put_z]
            refine wpAnyH_ready (rs := [7]) (by kernel_rfl) (by simp) ?_
            refine AllReadyH.cons rfl (fun K hK => ?_) AllReadyH.nil
            refine step_app rfl rfl T_nodes rfl hA9 rfl (Sl.new _ _ _) rfl (by simp [Value.oneCell']) (by simp only [maxLen]; omega) (by omega) ?_
            intro A8 c8 w8 ho8 hu8 hat8
            have hb8 := (hbD.alloc (.cells #[.int .i64 op, .int .i64 imm, .slice A1 kids.length c1_] 24)).upd hu8 hgl
            have k8 := hb8.cell 0
            have f8 := hb8.frozen 0
            have hq8 := q8 _ w8 _ (Upd.refl.alloc _) hu8 hll
            refine hK.out _ _ ?_ (fun hHeld => ?_)
            · exact hq8
            clear hK K
            try simp only [put_y]
            try simp only [Act.put]
            try simp only [put_z]
            refine wpAnyH_take (i := 8) (v := ?_) rfl (by kernel_rfl) (by kernel_rfl) (by kernel_rfl) (fun _ _ _ h => h) (Or.inl ⟨by rfl, ?_⟩) (by assumption) ?_
            rotate_left
            · intro w hSw; (try dsimp only at hSw); go_simp; try with_reducible rfl
            try simp only [put_y]
            try simp only [Act.put]
            try simp only [put_z]
            refine wpAnyH_take (i := 9) (v := ?_) rfl (by kernel_rfl) (by kernel_rfl) (by kernel_rfl) (fun _ _ _ h => h) (Or.inl ⟨by rfl, ?_⟩) (by assumption) ?_
            rotate_left
            · intro w hSw; (try dsimp only at hSw); go_simp; try with_reducible rfl
            try simp only [put_y]
            try simp only [Act.put]
            try simp only [put_z]
            refine wpAnyH_ready (rs := [10]) (by kernel_rfl) (by simp) ?_
            refine AllReadyH.cons rfl (fun K hK => ?_) AllReadyH.nil
            go_simp
            have uC := updCell w8 rb 0 (.slice A8 (G.L.length + 1) c8)
            refine hK.out _ _ ?_ (fun hHeld => ?_)
            · exact ⟨cell_upd hq8.1 uC (by omega), cell_upd hq8.2.1 uC (by omega), cell_upd hq8.2.2 uC (by omega)⟩
            clear hK K
            try simp only [put_y]
            try simp only [Act.put]
            try simp only [put_z]
            refine wpAnyH_done (by kernel_rfl) ?_ _
            go_wp2_with fail
            go_meet
            exact ⟨A8, c8, w8, ho8, hu8, hat8, rfl⟩
        case rest =>
        obtain ⟨A8, c8, w8, ho8, hu8, hat8, rfl⟩ := hcut
        have uC := updCell w8 rb 0 (.slice A8 (G.L.length + 1) c8)
        have b9 := ((hbD.alloc (.cells #[.int .i64 op, .int .i64 imm, .slice A1 kids.length c1_] 24)).upd hu8 hgl).set_ 0 (.slice A8 (G.L.length + 1) c8)
        have h8sz := hu8.size
        have hal8 : Hid (∀ k, At A8 k → At a.l k ∨ k = wD.heap.size + 1) := fun k hk => (hat8 k hk).imp_right (fun q => by simpa using q)
        have HKD : Hid (Own wD 3 1 A1 kids.length c1_ (icells kids)) := hoX.upd uD (fun _ _ f => f)
        have U9 : Upd (fun k => k = rb ∨ At a.l k) wD _ := ((((Upd.refl (S := Non)).alloc (.cells #[.int .i64 op, .int .i64 imm, .slice A1 kids.length c1_] 24)).mono (T := fun k => k = rb ∨ At a.l k) (fun _ _ f => f.elim)).trans hu8 (fun _ _ q => .inr q)).trans uC (fun _ _ q => .inl q)
        have hf9 : Own _ 3 1 a.f G.L.length a.fc (icells (clL G.L G.c)) := (by have := HH.out.f.1; rw [clL_len] at this; exact this : Own w 3 1 a.f G.L.length a.fc (icells (clL G.L G.c))).upd HUD.out (fun _ _ f => f) |>.upd U9 (fun k hk q => by
          rcases q with rfl | q
          · exact hgf hk
          · have e1 := HH.out.f.2 k hk; rw [HTR.out k q] at e1; cases e1)
        have hs9 : Own _ 3 1 a.s G.L.length a.sc (icells (sortsF G.L)) := (by have := HH.out.s.1; rw [sortsF_len] at this; exact this : Own w 3 1 a.s G.L.length a.sc (icells (sortsF G.L))).upd HUD.out (fun _ _ f => f) |>.upd U9 (fun k hk q => by
          rcases q with rfl | q
          · exact hgs hk
          · have e1 := HH.out.s.2 k hk; rw [HTR.out k q] at e1; cases e1)
        have ho9 := ho8.upd uC (fun k hk q => by rw [q] at hk; exact (hal8.out _ hk).elim hgl (fun e => by omega))
        have hnr : w.heap.size ≠ rb := by omega
        have r0 := cell_upd p0 U9 (fun q => q.elim hnr hll)
        have r1 := cell_upd p1 U9 (fun q => q.elim hnr hll)
        have r2 := cell_upd p2 U9 (fun q => q.elim hnr hll)
        obtain ⟨w9, H9⟩ := nm (w8.setCell ⟨rb, 0, none⟩ (.slice A8 (G.L.length + 1) c8))
        have e9 := H9.out
        rw [H9.out] at b9 uC U9 hf9 hs9 ho9 r0 r1 r2
        have k9 : w9.cell? ⟨rb, 2, none⟩ = some (.slice a.f G.L.length a.fc) := b9.cell 2
        have br9 := b9.lt
        have hsz9 := U9.size
        have h9sz : (wD.alloc (.cells #[.int .i64 op, .int .i64 imm, .slice A1 kids.length c1_] 24)).heap.size ≤ w9.heap.size := Nat.le_trans hu8.size uC.size
        have HU9 := Lib.hid U9
        clear hat8 ho8 hu8 uC q8 hA9 hbD p0 p1 p2 cD1 hux hUA hoA hbA U9
        go_wp2_with (at_builtin; first
          | (refine wpList_app rfl rfl T_ints' rfl (hf9.alloc _) rfl (Sl.new _ _ _) rfl (by simp [Value.oneCell']) (by simp only [maxLen]; omega) (by omega) ?_; intro A5 c5 w5 ho5 hu5 hat5; have b5 := (b9.alloc (.cells #[.int .i64 (G.L.length : Int)] 3)).upd hu5 hgf; have f5 := b5.frozen 2; have k5 : w5.cell? ⟨rb, 2, none⟩ = some (.slice a.f G.L.length a.fc) := b5.cell 2; have uE := updCell w5 rb 2 (.slice A5 (G.L.length + 1) c5); have b5' := b5.set_ 2 (.slice A5 (G.L.length + 1) c5); obtain ⟨wE, HE⟩ := nm (w5.setCell ⟨rb, 2, none⟩ (.slice A5 (G.L.length + 1) c5)); have eE := HE.out; rw [HE.out] at uE b5'; have k6 : wE.cell? ⟨rb, 3, none⟩ = some (.slice a.s G.L.length a.sc) := b5'.cell 3; have brE := b5'.lt; have U5 : Upd (fun k => k = rb ∨ At a.f k) w9 wE := ((((Upd.refl (S := Non)).alloc (.cells #[.int .i64 (G.L.length : Int)] 3)).mono (T := fun k => k = rb ∨ At a.f k) (fun _ _ f => f.elim)).trans hu5 (fun _ _ q => .inr q)).trans uE (fun _ _ q => .inl q); have hs6 := hs9.upd U5 (fun k hk q => by
              rcases q with rfl | q
              · exact hgs hk
              · have e1 := HH.out.s.2 k hk; rw [HH.out.f.2 k q] at e1; cases e1); have h5sz : (w9.alloc (.cells #[.int .i64 (G.L.length : Int)] 3)).heap.size ≤ wE.heap.size := Nat.le_trans hu5.size uE.size)
          | (refine wpList_app rfl rfl T_ints' rfl (hs6.alloc _) rfl (Sl.new _ _ _) rfl (by simp [Value.oneCell']) (by simp only [maxLen]; omega) (by omega) ?_; intro A6 c6 w6 ho6 hu6 hat6; have b6 := (b5'.alloc (.cells #[.int .i64 y] 3)).upd hu6 hgs; have f6 := b6.frozen 3; have k7 : w6.cell? ⟨rb, 3, none⟩ = some (.slice a.s G.L.length a.sc) := b6.cell 3; have uG := updCell w6 rb 3 (.slice A6 (G.L.length + 1) c6); have b6' := b6.set_ 3 (.slice A6 (G.L.length + 1) c6); obtain ⟨wG, HG6⟩ := nm (w6.setCell ⟨rb, 3, none⟩ (.slice A6 (G.L.length + 1) c6)); have eG := HG6.out; rw [HG6.out] at uG b6'; have U6 : Upd (fun k => k = rb ∨ At a.s k) wE wG := ((((Upd.refl (S := Non)).alloc (.cells #[.int .i64 y] 3)).mono (T := fun k => k = rb ∨ At a.s k) (fun _ _ f => f.elim)).trans hu6 (fun _ _ q => .inr q)).trans uG (fun _ _ q => .inl q)))
        have h6sz : (wE.alloc (.cells #[.int .i64 y] 3)).heap.size ≤ wG.heap.size := Nat.le_trans hu6.size uG.size
        have h9s : wD.heap.size + 1 ≤ w9.heap.size := by simpa using h9sz
        have h5s : w9.heap.size + 1 ≤ wE.heap.size := by simpa using h5sz
        have h6s : wE.heap.size + 1 ≤ wG.heap.size := by simpa using h6sz
        have hat5' : ∀ k, At A5 k → At a.f k ∨ k = w9.heap.size + 1 := fun k hk => (hat5 k hk).imp_right (fun q => by simpa using q)
        have hat6' : ∀ k, At A6 k → At a.s k ∨ k = wE.heap.size + 1 := fun k hk => (hat6 k hk).imp_right (fun q => by simpa using q)
        have ho5' := ho5.upd uE (fun k hk q => by rw [q] at hk; exact (hat5' _ hk).elim hgf (fun e => by omega))
        have ho6' := ho6.upd uG (fun k hk q => by rw [q] at hk; exact (hat6' _ hk).elim hgs (fun e => by omega))
        have d1 : ∀ k, At A8 k → ¬ (k = rb ∨ At a.f k) := fun k hk q => by
          rcases hal8.out k hk with e | e
          · rcases q with rfl | q
            · exact hgl e
            · have e1 := HH.out.f.2 k q; rw [HTR.out k e] at e1; cases e1
          · rcases q with q | q
            · omega
            · have := HFW.out k q; omega
        have d2 : ∀ k, At A8 k → ¬ (k = rb ∨ At a.s k) := fun k hk q => by
          rcases hal8.out k hk with e | e
          · rcases q with rfl | q
            · exact hgl e
            · have e1 := HH.out.s.2 k q; rw [HTR.out k e] at e1; cases e1
          · rcases q with q | q
            · omega
            · have := HSW.out k q; omega
        have d3 : ∀ k, At A5 k → ¬ (k = rb ∨ At a.s k) := fun k hk q => by
          rcases hat5' k hk with e | e
          · rcases q with rfl | q
            · exact hgf e
            · have e1 := HH.out.s.2 k q; rw [HH.out.f.2 k e] at e1; cases e1
          · rcases q with q | q
            · omega
            · have := HSW.out k q; omega
        have hA1w : ∀ k, At A1 k → w.heap.size + 1 ≤ k ∧ k < wD.heap.size := fun k hk => ⟨by have := HA1.out k hk; omega, HKD.out.lt hk⟩
        have hgw : rb < w.heap.size := hrw
        have UG : Upd (fun k => k = rb ∨ At a.l k ∨ At a.f k ∨ At a.s k) w wG := ((((HUD.out.mono (T := fun k => k = rb ∨ At a.l k ∨ At a.f k ∨ At a.s k) (fun _ _ f => f.elim)).trans HU9.out (fun _ _ q => q.elim .inl (fun q => .inr (.inl q)))).trans U5 (fun _ _ q => q.elim .inl (fun q => .inr (.inr (.inl q)))))).trans U6 (fun _ _ q => q.elim .inl (fun q => .inr (.inr (.inr q))))
        have hKG := ((HKD.out.upd HU9.out (fun k hk q => by
          have := hA1w k hk
          rcases q with q | q
          · omega
          · have := HLW.out k q; omega)).upd U5 (fun k hk q => by
          have := hA1w k hk
          rcases q with q | q
          · omega
          · have := HFW.out k q; omega)).upd U6 (fun k hk q => by
          have := hA1w k hk
          rcases q with q | q
          · omega
          · have := HSW.out k q; omega)
        have hno5 : ¬ (w.heap.size = rb ∨ At a.f w.heap.size) := fun q => q.elim (fun q => by omega) (fun q => by have := HFW.out _ q; omega)
        have hno6 : ¬ (w.heap.size = rb ∨ At a.s w.heap.size) := fun q => q.elim (fun q => by omega) (fun q => by have := HSW.out _ q; omega)
        have s0 := cell_upd (cell_upd r0 U5 hno5) U6 hno6
        have s1 := cell_upd (cell_upd r1 U5 hno5) U6 hno6
        have s2 := cell_upd (cell_upd r2 U5 hno5) U6 hno6
        have hNX := RM.add (nd := ⟨op, imm, kids⟩) HH.out HTC.out HTR.out (HGW.out.wf.out _ (Nat.le_refl _)) b6' ((ho9.upd U5 d1).upd U6 d2) (ho5'.upd U6 d3) (by rw [Hy.out]; exact ho6') UG hal8.out hat5' hat6' (fun k hk => by have := hA1w k hk; omega) (by omega) (by omega) (by omega) hKG.ints (fun k hk => hKG.lt hk) hKG.le
        obtain ⟨ρ', a', hM', hU', he'⟩ := hNX
        have HM := Lib.hid hM'
        have HU' := Lib.hid hU'
        have HE' := Lib.hid he'
        have hWf : GWf (G.add ⟨op, imm, kids⟩) := HGW.out.addWf HOK.out HS0.out HSA.out (by omega)
        have HWf := Lib.hid hWf
        have hLl : (G.add (⟨op, imm, kids⟩ : Nd)).L.length = G.L.length + 1 := by simp [EG.add]
        have hTl : (G.add (⟨op, imm, kids⟩ : Nd)).T.length = G.T.length := rfl
        have m0 := hM'.c0
        have m1 := hM'.c1
        have m2 := hM'.c2
        rw [hLl] at m0 m2
        rw [hTl] at m1
        have hokk := (add_op HS0.out).2.2
        have HCA := Lib.hid (fun i (hi : i < G.L.length) => HGW.out.wf.cg_add hokk hi)
        have brG := hM'.blk.lt
        have HIK := Lib.hid hKG.ints
        obtain ⟨n, Hn⟩ := nm G.L.length
        have hn2 : n < 2000 := by rw [← Hn.out]; omega
        clear hokk hWf hM' hU' he' UG d1 d2 d3 U5 U6 hKG hno5 hno6 ho5' ho6' ho5 ho6 ho9 hat5 hat6 hat5' hat6' hu5 hu6 uE uG b5 b6 b5' b6' b9 hf9 hs9 hs6 f5 f6 k5 k6 k7 k9 r0 r1 r2 hLl hTl h9sz h5sz h6sz
        rw [Hn.out] at m0 m2 HR HG
        rw [Hn.out]
        go_wp2_with fail
        go_loopg [9] n (fun g i wr => ∃ t : Nat, Hid (g = n - t) ∧ t ≤ n ∧ i = .int .i64 t ∧ Hid (∀ k, k < t → cgB G.c (G.L.getD k nd0) ⟨op, imm, kids⟩ = false) ∧ Upd Non wG wr)
        case atStart => exact ⟨0, rfl, by omega, rfl, fun k hk => by omega, Upd.refl⟩
        case round =>
          obtain ⟨t, Hg, ht, rfl, HO, hu⟩ := hrel
          by_cases hlt : t < n
          · have htG : t < G.L.length := by rw [Hn.out]; exact hlt
            have hM := HM.out.non hu
            have hLl : (G.add (⟨op, imm, kids⟩ : Nd)).L.length = n + 1 := by simp [EG.add, Hn.out]
            have ht1 : t < (G.add (⟨op, imm, kids⟩ : Nd)).L.length := by omega
            have hge : (G.add (⟨op, imm, kids⟩ : Nd)).L[t] = G.L[t] := by simp [EG.add, List.getElem_append_left htG]
            obtain ⟨fb, ef, hfb, _⟩ := hM.fat ht1
            obtain ⟨lb, lo, ea, _, hlb, n1, n2, KB, kd, n3, hkd, hki⟩ := hM.lv.at_ ht1
            rw [hge] at n1 n2 n3 hki hkd
            have hkl := HGW.out.klen htG
            have hca := HCA.out t htG
            rw [Hn.out] at hca
            have HN2 : Hid (cgB G.c (G.L.getD t nd0) ⟨op, imm, kids⟩ = false → ∀ k, k < t + 1 → cgB G.c (G.L.getD k nd0) ⟨op, imm, kids⟩ = false) := fun q k hk => by
              by_cases e : k = t
              · subst e; exact q
              · exact HO.out k (by omega)
            have HY2 : Hid (cgB G.c (G.L.getD t nd0) ⟨op, imm, kids⟩ = true → olderOf G ⟨op, imm, kids⟩ = some t) := fun q => older_to htG q HO.out
            have hikr := HIK.out.upd hu (fun _ _ _ f => f)
            have C2 := Lib.hid (fun W (u : Upd Non wr W) => congruent_c fb a'.fc (n + 1) W G.c (fun _ => True) G.L[t] ⟨op, imm, kids⟩ KB A1 kd c1_ (by
              have := (hM.non u).row
              rw [hLl] at this
              rcases this with z | ⟨g, eg, z⟩
              · have := congrArg List.length z; rw [List.length_map, List.length_range, List.length_nil] at this; omega
              · rw [ef] at eg; injection eg with e; injection e with e; subst e; exact z) ((hki.upd u (fun _ _ _ f => f)).mono (fun _ _ _ => trivial)) ((hikr.upd u (fun _ _ _ f => f)).mono (fun _ _ _ => trivial)) (by omega))
            rw [hca] at C2
            generalize G.L[t] = na at *
            obtain ⟨b, Hb⟩ := nm (cgB G.c (G.L.getD t nd0) ⟨op, imm, kids⟩)
            rw [Hb.out] at C2 HN2 HY2
            have z0 := cell_upd m0 hu (fun f => f)
            have z1 := cell_upd m1 hu (fun f => f)
            have z2 := cell_upd m2 hu (fun f => f)
            rw [ea] at z0
            rw [ef] at z2
            have y0 := cell_upd s0 hu (fun f => f)
            have y1 := cell_upd s1 hu (fun f => f)
            have y2 := cell_upd s2 hu (fun f => f)
            have i0 : (0 : Int) ≤ (t : Int) := by omega
            have i1 : (t : Int) < ((n + 1 : Nat) : Int) := by omega
            have i2 : (t : Int) < (n : Int) + 1 := by omega
            have hS : ∀ w', Upd Non wr w' → w'.cell? ⟨rb, 0, none⟩ = some (.slice (some ⟨lb, lo, none⟩) (n + 1) a'.lc) ∧ w'.cell? ⟨rb, 2, none⟩ = some (.slice (some ⟨fb, 0, none⟩) (n + 1) a'.fc) ∧ w'.cell? ⟨lb, lo + t * 3, none⟩ = some (.int .i64 na.op) ∧ w'.cell? ⟨lb, lo + t * 3 + 1, none⟩ = some (.int .i64 na.imm) ∧ w'.cell? ⟨lb, lo + t * 3 + 2, none⟩ = some (.slice KB na.kids.length kd) ∧ w'.cell? ⟨w.heap.size, 0, none⟩ = some (.int .i64 op) ∧ w'.cell? ⟨w.heap.size, 1, none⟩ = some (.int .i64 imm) ∧ w'.cell? ⟨w.heap.size, 2, none⟩ = some (.slice A1 kids.length c1_) := fun w' u => ⟨cell_upd z0 u (fun f => f), cell_upd z2 u (fun f => f), cell_upd n1 u (fun f => f), cell_upd n2 u (fun f => f), cell_upd n3 u (fun f => f), cell_upd y0 u (fun f => f), cell_upd y1 u (fun f => f), cell_upd y2 u (fun f => f)⟩
            obtain ⟨w4', e4⟩ : ∃ w4' : World, w4' = wr := ⟨_, rfl⟩
            subst e4
            clear hM ea ef hge hca z0 z1 z2 y0 y1 y2
            go_wp2_with fail
            refine wp_region_held_drew (S := fun w' => w'.cell? ⟨rb, 0, none⟩ = some (.slice (some ⟨lb, lo, none⟩) (n + 1) a'.lc) ∧ w'.cell? ⟨rb, 2, none⟩ = some (.slice (some ⟨fb, 0, none⟩) (n + 1) a'.fc) ∧ w'.cell? ⟨lb, lo + t * 3, none⟩ = some (.int .i64 na.op) ∧ w'.cell? ⟨lb, lo + t * 3 + 1, none⟩ = some (.int .i64 na.imm) ∧ w'.cell? ⟨lb, lo + t * 3 + 2, none⟩ = some (.slice KB na.kids.length kd) ∧ w'.cell? ⟨w.heap.size, 0, none⟩ = some (.int .i64 op) ∧ w'.cell? ⟨w.heap.size, 1, none⟩ = some (.int .i64 imm) ∧ w'.cell? ⟨w.heap.size, 2, none⟩ = some (.slice A1 kids.length c1_)) (by kernel_rfl) (hS _ (Upd.refl (S := Non)).drew) (fun hHeld => ?_)
            refine wpAnyH_take (i := 0) (v := ?_) rfl (by kernel_rfl) (by kernel_rfl) (by kernel_rfl) (fun _ _ _ h => h) (Or.inl ⟨by rfl, ?_⟩) (by assumption) ?_
            rotate_left
            · intro w hSw; (try dsimp only at hSw); go_simp; try with_reducible rfl
            try simp only [put_y]
            try simp only [Act.put]
            try simp only [put_z]
            refine wpAnyH_take (i := 1) (v := ?_) rfl (by kernel_rfl) (by kernel_rfl) (by kernel_rfl) (fun _ _ _ h => h) (Or.inl ⟨by rfl, ?_⟩) (by assumption) ?_
            rotate_left
            · intro w hSw; (try dsimp only at hSw); go_simp; try with_reducible rfl
            try simp only [put_y]
            try simp only [Act.put]
            try simp only [put_z]
            refine wpAnyH_take (i := 2) (v := ?_) rfl (by kernel_rfl) (by kernel_rfl) (by kernel_rfl) (fun _ _ _ h => h) (Or.inl ⟨by rfl, ?_⟩) (by assumption) ?_
            rotate_left
            · intro w hSw; (try dsimp only at hSw); go_simp; try with_reducible rfl
            try simp only [put_y]
            try simp only [Act.put]
            try simp only [put_z]
            refine wpAnyH_take (i := 3) (v := ?_) rfl (by kernel_rfl) (by kernel_rfl) (by kernel_rfl) (fun _ _ _ h => h) (Or.inl ⟨by rfl, ?_⟩) (by assumption) ?_
            rotate_left
            · intro w hSw; (try dsimp only at hSw); go_simp; try with_reducible rfl
            try simp only [put_y]
            try simp only [Act.put]
            try simp only [put_z]
            refine wpAnyH_take (i := 4) (v := ?_) rfl (by kernel_rfl) (by kernel_rfl) (by kernel_rfl) (fun _ _ _ h => h) (Or.inl ⟨by rfl, ?_⟩) (by assumption) ?_
            rotate_left
            · intro w hSw; (try dsimp only at hSw); go_simp; try with_reducible rfl
            try simp only [put_y]
            try simp only [Act.put]
            try simp only [put_z]
            refine wpAnyH_take (i := 5) (v := ?_) rfl (by kernel_rfl) (by kernel_rfl) (by kernel_rfl) (fun _ _ _ h => h) (Or.inl ⟨by rfl, ?_⟩) (by assumption) ?_
            rotate_left
            · intro w hSw; (try dsimp only at hSw); go_simp; try with_reducible rfl
            try simp only [put_y]
            try simp only [Act.put]
            try simp only [put_z]
            refine wpAnyH_take (i := 6) (v := ?_) rfl (by kernel_rfl) (by kernel_rfl) (by kernel_rfl) (fun _ _ _ h => h) (Or.inl ⟨by rfl, ?_⟩) (by assumption) ?_
            rotate_left
            · intro w hSw; (try dsimp only at hSw); go_simp; try with_reducible rfl
            try simp only [put_y]
            try simp only [Act.put]
            try simp only [put_z]
            refine wpAnyH_take (i := 7) (v := ?_) rfl (by kernel_rfl) (by kernel_rfl) (by kernel_rfl) (fun _ _ _ h => h) (Or.inl ⟨by rfl, ?_⟩) (by assumption) ?_
            rotate_left
            · intro w hSw; (try dsimp only at hSw); go_simp; try with_reducible rfl
            try simp only [put_y]
            try simp only [Act.put]
            try simp only [put_z]
            refine wpAnyH_take (i := 8) (v := ?_) rfl (by kernel_rfl) (by kernel_rfl) (by kernel_rfl) (fun _ _ _ h => h) (Or.inl ⟨by rfl, ?_⟩) (by assumption) ?_
            rotate_left
            · intro w hSw; (try dsimp only at hSw); go_simp; try with_reducible rfl
            try simp only [put_y]
            try simp only [Act.put]
            try simp only [put_z]
            refine wpAnyH_take (i := 9) (v := ?_) rfl (by kernel_rfl) (by kernel_rfl) (by kernel_rfl) (fun _ _ _ h => h) (Or.inl ⟨by rfl, ?_⟩) (by assumption) ?_
            rotate_left
            · intro w hSw; (try dsimp only at hSw); go_simp; try with_reducible rfl
            try simp only [put_y]
            try simp only [Act.put]
            try simp only [put_z]
            refine wpAnyH_take (i := 10) (v := ?_) rfl (by kernel_rfl) (by kernel_rfl) (by kernel_rfl) (fun _ _ _ h => h) (Or.inl ⟨by rfl, ?_⟩) (by assumption) ?_
            rotate_left
            · intro w hSw; (try dsimp only at hSw); go_simp; try with_reducible rfl
            try simp only [put_y]
            try simp only [Act.put]
            try simp only [put_z]
            refine wpAnyH_take (i := 11) (v := ?_) rfl (by kernel_rfl) (by kernel_rfl) (by kernel_rfl) (fun _ _ _ h => h) (Or.inl ⟨by rfl, ?_⟩) (by assumption) ?_
            rotate_left
            · intro w hSw; (try dsimp only at hSw); go_simp; try with_reducible rfl
            try simp only [put_y]
            try simp only [Act.put]
            try simp only [put_z]
            refine wpAnyH_ready (rs := [12]) (by kernel_rfl) (by simp) ?_
            refine AllReadyH.cons rfl (fun K hK => ?_) AllReadyH.nil
            go_simp
            refine (C2.out w4'.drew (Upd.refl.drew (S := Non))).mono ?_
            rintro e w5 ⟨rfl, hu5'⟩
            have hu5 : Upd Non w4' w5 := Upd.refl.drew.then_non hu5'
            go_wp2_with fail
            refine hK.out _ _ ?_ (fun hHeld => ?_)
            · exact hS _ hu5
            clear hK K
            try simp only [put_y]
            try simp only [Act.put]
            try simp only [put_z]
            refine wpAnyH_done (by kernel_rfl) ?_ _
            have hU5 := hu.then_non hu5
            cases b with
            | false =>
              have HR2 := Lib.hid (HN2.out rfl)
              clear HN2 HY2 C2
              go_wp2_with fail
              go_roundg (n - (t + 1))
              case measure => rw [Hg.out]; omega
              case rel => exact ⟨t + 1, rfl, by omega, by go_num, HR2, hU5⟩
            | true =>
              have HR2 := Lib.hid (HY2.out rfl)
              rw [HR2.out] at HG
              have HG : Hid (addG G ⟨op, imm, kids⟩ = (G.add ⟨op, imm, kids⟩).merge (cgStep t n)) := HG.out
              clear HN2 HY2 C2
              obtain ⟨cs2, hto, htc, htr⟩ := HM.out.t
              have HTR2 := Lib.hid htr
              have HTC2 := Lib.hid htc
              have hgt : ¬ At a'.t rb := fun q => by have e1 := HTR2.out rb q; rw [HM.out.me] at e1; cases e1
              have hgf2 : ¬ At a'.f rb := fun q => by have e1 := HM.out.f.2 rb q; rw [HM.out.me] at e1; cases e1
              have HTF : Hid (∀ k, At a'.f k → ¬ At a'.t k) := fun k q q2 => by have e1 := HM.out.f.2 k q; rw [HTR2.out k q2] at e1; cases e1
              have hfo : Own wG 3 1 a'.f (n + 1) a'.fc (icells (clsN (n + 1) G.c)) := by have := HM.out.f.1; rw [clL_cls, hLl] at this; rw [show (clsN (n + 1) (G.add (⟨op, imm, kids⟩ : Nd)).c).length = n + 1 by simp [clsN]] at this; exact this
              have hbk : Blk wG rb 61 #[.slice a'.l (n + 1) a'.lc, .slice a'.t G.T.length a'.tc, .slice a'.f (n + 1) a'.fc, .slice a'.s (n + 1) a'.sc] := by have := HM.out.blk; unfold RA.cells at this; rw [hLl] at this; exact this
              have hbk1 := hbk.upd hU5 (fun f => f)
              have ho1 : Own w5 34 5 a'.t G.T.length a'.tc cs2 := hto.upd hU5 (fun _ _ f => f)
              have hf1 := hfo.upd hU5 (fun _ _ f => f)
              have c11 := hbk1.cell 1
              have HW := Lib.hid hU5.size
              clear htr htc hto hbk hfo n1 n2 n3 hki hS
              go_wp2_with (at_builtin; refine wpList_app rfl rfl T_steps rfl (ho1.alloc _) rfl (Sl.new _ _ _) rfl (by simp [Value.oneCell']) (by simp only [maxLen]; omega) (by omega) ?_; intro A3 c3 w7 ho7 hu7 hat7; have b7 := (hbk1.alloc _).upd hu7 hgt; have f71 := b7.frozen 1; have c71 := b7.cell 1; have hf7 := (hf1.alloc _).upd hu7 HTF.out; have uC := updCell w7 rb 1 (.slice A3 (G.T.length + 1) c3); have b7' := b7.set_ 1 (.slice A3 (G.T.length + 1) c3); have hf7' := hf7.upd uC (fun k hk e => by rw [e] at hk; exact hgf2 hk); have ho7' := ho7.upd uC (fun k hk e => by rw [e] at hk; exact (hat7 _ hk).elim (fun q => hgt q) (fun q => by have := hbk1.lt; simp at q; omega)); obtain ⟨wC, HC⟩ := nm (w7.setCell ⟨rb, 1, none⟩ (.slice A3 (G.T.length + 1) c3)); have eC := HC.out; rw [HC.out] at hf7' b7' uC ho7'; have c72 := b7'.cell 2)
              refine (joinO_c wC a'.f (n + 1) a'.fc G.c t n (by omega) (by omega) (by omega) hf7').mono ?_
              rintro e w6' ⟨rfl, hf6, hu6⟩
              have hT6 := ho7'.upd hu6 (fun k hk q => (hat7 k hk).elim (HTF.out k q) (fun e => by have := HM.out.f.1.lt q; have := HW.out; simp at e; omega))
              have hU6 : Upd (fun k => k = rb ∨ At a'.t k ∨ At a'.f k) wG w6' := ((((hU5.alloc _).mono (T := fun k => k = rb ∨ At a'.t k ∨ At a'.f k) (fun _ _ f => f.elim)).trans hu7 (fun _ _ q => .inr (.inl q))).trans uC (fun _ _ q => .inl q)).trans hu6 (fun _ _ q => .inr (.inr q))
              have hb6 := b7'.upd hu6 hgf2
              have HA5 : Hid (∀ k, At A3 k → At a'.t k ∨ (wG.heap.size ≤ k ∧ ¬ (fun _ => False) k)) := fun k hk => by
                rcases hat7 k hk with q | q
                · exact .inl q
                · refine .inr ⟨?_, fun f => f⟩
                  have := HW.out
                  simp at q
                  omega
              clear hat7 b7 b7' ho7 ho7' hf7 hf7' uC hu7
              go_wp2_with fail
              go_ret2
              refine ⟨by rw [HR.out]; rfl, ?_⟩
              rw [HG.out]
              have hfin := RM.merge (s := cgStep t n) (c' := joinc G.c t n) (V := fun _ => False) HM.out HTC2.out HTR2.out (by rw [hLl]; exact hb6) hT6 (by rw [hLl]; exact hf6) hU6 HA5.out (fun _ f => f.elim) .nil .nil (by simp [cgStep]) (by simp [cgStep])
              exact RNext.trans HU'.out HE'.out hfin
          · obtain rfl : n = t := by omega
            have ho : Hid (olderOf G ⟨op, imm, kids⟩ = none) := older_end (by rw [Hn.out]; exact HO.out)
            rw [ho.out] at HG
            go_wp2_with fail
            go_ret2
            exact ⟨by rw [HR.out]; rfl, by rw [HG.out]; exact RNext.trans HU'.out HE'.out (RNext.same HM.out hu)⟩
end Go.Proofs.Ytigambcefdeaoaa
