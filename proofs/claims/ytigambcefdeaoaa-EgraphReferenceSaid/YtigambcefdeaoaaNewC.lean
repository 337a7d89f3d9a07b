/-
  What egraph.New does: a graph of the nodes, or an error.
-/
import Derived.Test.YtigambcefdeaoaaInsA
import Derived.Test.YtigambcefdeaoaaRebP
import Derived.Test.YtigambcefdeaoaaUniC
namespace Go.Proofs.Ytigambcefdeaoaa
open Go.RowKit

theorem GM.new {w : World} {gb o x : Nat} (hb : Blk w gb 73 #[.slice none 0 0, .slice none 0 0, .slice none 0 0, .slice none 0 0, .map (some o), .map (some x), .slice none 0 0]) (ho : OMap w o (fun _ => none)) (hx : SMap w x (fun _ => none)) (h1 : o ≠ x) (h2 : o ≠ gb) (h3 : x ≠ gb) :
    GM w (fun k => if k = gb then .me else if k = o then .byOp else if k = x then .idx else .no) gb ⟨none, 0, none, 0, none, 0, none, 0, o, x, none, 0⟩ (newG []) := by
  refine ⟨fun k hk => ?_, by simp, hb, ⟨[], Own.none_, NodeCells.nil, fun k hk => (At.none_ hk).elim⟩, ⟨Own.none_, fun k hk => (At.none_ hk).elim⟩, ⟨Own.none_, fun k hk => (At.none_ hk).elim⟩,
    ⟨[], rfl, Own.none_, fun k hk => (At.none_ hk).elim, fun i hi => by simp [newG] at hi⟩, ⟨_, ho, by simp [h2], fun q => .inl ⟨rfl, rfl⟩⟩, ⟨hx, by simp [h3, Ne.symm h1]⟩, ⟨[], Own.none_, StepCells.nil, fun k hk => (At.none_ hk).elim⟩⟩
  split at hk
  · rename_i e; rw [e]; exact hb.lt
  · split at hk
    · rename_i e; rw [e]; exact ho.lt
    · split at hk
      · rename_i e; rw [e]; exact hx.lt
      · exact absurd rfl hk

/-- What New returns. -/
def NewPost (w : World) (L : List Nd) (e : Ending) (w' : World) : Prop :=
  (2000 < L.length ∧ e = .returned (.tuple #[.pointer none, .int .i64 6])) ∨ (L.length ≤ 2000 ∧ ¬ allSorted L ∧ e = .returned (.tuple #[.pointer none, .int .i64 1])) ∨
  (L.length ≤ 2000 ∧ allSorted L ∧ ¬ nodup L ∧ e = .returned (.tuple #[.pointer none, .int .i64 4])) ∨
  (L.length ≤ 2000 ∧ allSorted L ∧ nodup L ∧ ∃ gb ρ a, e = .returned (.tuple #[gp gb, .int .i64 0]) ∧ GM w' ρ gb a (newG L) ∧ ∀ k, ρ k ≠ .no → w.heap.size ≤ k)

set_option maxRecDepth 100000 in
set_option maxHeartbeats 4000000 in
theorem gNew_c (w : World) (F : Nat → Prop) (LA : Option Addr) (lc : Nat) (L : List Nd) (hL : NodesV w F LA L) (hlc : L.length ≤ lc) (hn : L.length ≤ 100000000000) (hok : ∀ nd ∈ L, NdOk nd) (hkk : ∀ nd ∈ L, nd.kids.length ≤ 100000000000) :
    Calls Try.prog 10 #[.slice LA L.length lc] w fun e w' => NewPost w L e w' ∧ Upd Non w w' := by
  have HOK := Lib.hid hok
  have HKK := Lib.hid hkk
  have hL0 := hL.mono (G := (· < w.heap.size)) (fun k hk _ => hk)
  clear hok hkk hL
  by_cases hbig : 2000 < L.length
  · go_enter Try.func10, Try.ntmps10
    go_wp2_with fail
    go_ret2
    exact ⟨.inl ⟨hbig, rfl⟩, Upd.refl⟩
  have hsm : L.length ≤ 2000 := by omega
  have hmm := @run_makeMap Try.prog
  go_enter Try.func10, Try.ntmps10
  go_wp2_with fail
  go_loopg [4, 15] L.length (fun g _ iv wr => ∃ k : Nat, Hid (g = L.length - k) ∧ k ≤ L.length ∧ iv = .int .i64 k ∧ Hid (∀ q, q < k → (sortsF L).getD q 0 ≠ 0) ∧ Upd Non w wr)
  case atStart => exact ⟨0, rfl, by omega, rfl, fun q hq => by omega, Upd.refl⟩
  case round =>
    obtain ⟨k, Hg, hk, rfl, Hs, hu⟩ := hrel
    by_cases hlt : k < L.length
    · have C1 := Lib.hid (irSort_c wr (· < w.heap.size) LA lc L k (hL0.upd hu (fun _ _ _ f => f)) hlc hlt hn HKK.out)
      rw [sorts_take_get hlt] at C1
      by_cases hz : (sortsF L).getD k 0 = 0
      · have HNS : Hid (¬ allSorted L) := fun h => h k hlt hz
        rw [hz] at C1
        clear hz
        go_wp2_with fail
        refine C1.out.mono ?_
        rintro e w1 ⟨rfl, hu1⟩
        go_wp2_with fail
        go_ret2
        exact ⟨.inr (.inl ⟨hsm, HNS.out, rfl⟩), hu.then_non hu1⟩
      · have Hs2 : Hid (∀ q, q < k + 1 → (sortsF L).getD q 0 ≠ 0) := fun q hq => by
          by_cases e : q = k
          · subst e; exact hz
          · exact Hs.out q (by omega)
        have hb : ((sortsF L).getD k 0 == 0) = false := by simpa using hz
        generalize (sortsF L).getD k 0 = y at *
        clear hz
        go_wp2_with fail
        refine C1.out.mono ?_
        rintro e w1 ⟨rfl, hu1⟩
        go_wp2_with fail
        go_roundg (L.length - (k + 1))
        case measure => rw [Hg.out]; omega
        case rel => exact ⟨k + 1, rfl, by omega, by go_num, Hs2, hu.then_non hu1⟩
    · obtain rfl : L.length = k := by omega
      have HAS : Hid (allSorted L) := Hs.out
      clear Hs Hg
      obtain ⟨w0, e0⟩ : ∃ w0 : World, w0 = wr := ⟨_, rfl⟩
      subst e0
      go_wp2_with fail
      have hgm := GM.new (w := ((w0.alloc (.map #[] 0)).alloc (.map #[] 0)).alloc (.cells #[.slice none 0 0, .slice none 0 0, .slice none 0 0, .slice none 0 0, .map (some w0.heap.size), .map (some (w0.heap.size + 1)), .slice none 0 0] 73)) (gb := w0.heap.size + 1 + 1) (o := w0.heap.size) (x := w0.heap.size + 1)
        (Blk.new' (by simp)) ((((OMap.new w0).upd (Upd.refl.alloc _ (S := Non)) (fun f => f)).upd (Upd.refl.alloc _ (S := Non)) (fun f => f))) (((by have := SMap.new (w0.alloc (.map #[] 0)); simpa using this : SMap ((w0.alloc (.map #[] 0)).alloc (.map #[] 0)) (w0.heap.size + 1) (fun _ => none))).upd (Upd.refl.alloc _ (S := Non)) (fun f => f)) (by omega) (by omega) (by omega)
      have s0 := hu.size
      obtain ⟨gb, Hgb⟩ := nm (w0.heap.size + 1 + 1)
      rw [Hgb.out] at hgm ⊢
      have hgbw : w.heap.size ≤ gb := by rw [← Hgb.out]; omega
      go_loopg [6, 7, 8, 9, 29] L.length (fun g _ _ _ _ iv wr => ∃ (k : Nat) (ρ : Nat → Role) (a : GA), Hid (g = L.length - k) ∧ k ≤ L.length ∧ iv = .int .i64 k ∧ GM wr ρ gb a (newG (L.take k)) ∧ Hid (∀ q, ρ q ≠ .no → w.heap.size ≤ q) ∧ Upd Non w wr ∧ Hid (∀ i j (hj : j < k) (hL : j < L.length) (hi : i < j), L[i] ≠ L[j]))
      case atStart =>
        refine ⟨0, _, _, rfl, by omega, rfl, hgm, fun q hq => ?_, ((hu.alloc _).alloc _).alloc _, fun i j hj => by omega⟩
        split at hq
        · omega
        · split at hq
          · omega
          · split at hq
            · omega
            · exact absurd rfl hq
      case round =>
        clear hgm hu hmm
        obtain ⟨k, ρ, a, Hg, hk, rfl, hM, Hro, hu, Hnd⟩ := hrel
        by_cases hlt : k < L.length
        · obtain ⟨lb, lo, rfl, hFl, hlb, h1, h2, KA, kc, h3, hkc, hki⟩ := (hL0.upd hu (fun _ _ _ f => f)).at_ hlt
          have HSN : Hid (∀ y, (sortsF L).getD k 0 = y → sortsF (L.take k ++ [L[k]]) = sortsF (L.take k) ++ [y]) := fun y hy => by rw [← hy]; exact sorts_snoc hlt
          have Hadd := Lib.hid (newG_add hlt)
          have hix := idxF_take HAS.out HOK.out hsm hlt
          have hk33 : L[k].kids.length ≤ 33 := by
            have := HAS.out k hlt
            rw [sorts_step hlt] at this
            unfold sortsStep at this
            split at this
            · exact sort_klen this (by simp [kidSorts])
            · exact absurd rfl this
          have Hnd2 : Hid ((∀ i (hi : i < k), L[i] ≠ L[k]) → ∀ i j (hj : j < k + 1) (hL : j < L.length) (hi : i < j), L[i] ≠ L[j]) := fun hne i j hj hL hi => by
            by_cases e : j = k
            · subst e; exact hne i hi
            · exact Hnd.out i j (by omega) hL hi
          have Hdup : Hid ((∃ i, ∃ hi : i < k, L[i] = L[k]) → ¬ nodup L) := fun ⟨i, hi, e⟩ hd => hd i k (by omega) hlt hi e
          obtain ⟨nd, Hq⟩ : ∃ nd, L[k] = nd := ⟨_, rfl⟩
          rw [Hq] at h1 h2 h3 hkc hki HSN Hadd hix hk33 Hnd2 Hdup
          clear Hq
          obtain ⟨op, imm, kids⟩ := nd
          dsimp only at h1 h2 h3 hkc hki hk33
          obtain ⟨W, HW⟩ := nm (wr.alloc (.cells #[.int .i64 op, .int .i64 imm, .slice KA kids.length kc] 24))
          have uA : Upd Non wr W := by rw [← HW.out]; exact Upd.refl.alloc _
          have hnb : Blk W wr.heap.size 24 #[.int .i64 op, .int .i64 imm, .slice KA kids.length kc] := by rw [← HW.out]; exact Blk.new _ _ _
          have eA := HW.out
          have hMW := hM.non uA
          have huW := hu.then_non uA
          have hLW := (hL0.upd hu (fun _ _ _ f => f)).upd uA (fun _ _ _ f => f)
          have hkW := hki.upd uA (fun _ _ _ f => f)
          have Hnb : Hid (∀ w3 : World, W.heap.size ≤ w3.heap.size → ρ wr.heap.size = .no) := fun w3 _ => Classical.byContradiction fun hne => by have := hM.bnd _ hne; omega
          obtain ⟨nb, Hnbq⟩ := nm wr.heap.size
          rw [Hnbq.out] at hnb Hnb
          have C3 := Lib.hid (nodeKey_c W.drew op imm KA kc kids (· < w.heap.size) (hkW.upd (Upd.refl.drew (S := Non)) (fun _ _ _ f => f)) (by omega))
          have q5 : W.drew.cell? ⟨gb, 5, none⟩ = some (.map (some a.x)) := hMW.c5
          have q0 : W.drew.cell? ⟨nb, 0, none⟩ = some (.int .i64 op) := hnb.cell 0
          have q1 : W.drew.cell? ⟨nb, 1, none⟩ = some (.int .i64 imm) := hnb.cell 1
          have q2 : W.drew.cell? ⟨nb, 2, none⟩ = some (.slice KA kids.length kc) := hnb.cell 2
          have enb := Hnbq.out
          go_wp2_with fail
          refine wp_region_held_drew (S := fun w' => w'.cell? ⟨gb, 5, none⟩ = some (.map (some a.x)) ∧ w'.cell? ⟨nb, 0, none⟩ = some (.int .i64 op) ∧ w'.cell? ⟨nb, 1, none⟩ = some (.int .i64 imm) ∧ w'.cell? ⟨nb, 2, none⟩ = some (.slice KA kids.length kc)) (by kernel_rfl) ⟨q5, q0, q1, q2⟩ (fun hHeld => ?_)
          refine wpAnyH_take (i := 0) (v := ?_) rfl (by kernel_rfl) (by kernel_rfl) (by kernel_rfl) (fun _ _ _ h => h) (Or.inl ⟨by rfl, ?_⟩) (by assumption) ?_
          rotate_left
          · intro w hSw; (try dsimp only at hSw); go_simp; try with_reducible rfl
          try simp only [put_z]
          refine wpAnyH_take (i := 1) (v := ?_) rfl (by kernel_rfl) (by kernel_rfl) (by kernel_rfl) (fun _ _ _ h => h) (Or.inl ⟨by rfl, ?_⟩) (by assumption) ?_
          rotate_left
          · intro w hSw; (try dsimp only at hSw); go_simp; try with_reducible rfl
          try simp only [put_z]
          refine wpAnyH_take (i := 2) (v := ?_) rfl (by kernel_rfl) (by kernel_rfl) (by kernel_rfl) (fun _ _ _ h => h) (Or.inl ⟨by rfl, ?_⟩) (by assumption) ?_
          rotate_left
          · intro w hSw; (try dsimp only at hSw); go_simp; try with_reducible rfl
          try simp only [put_z]
          refine wpAnyH_take (i := 3) (v := ?_) rfl (by kernel_rfl) (by kernel_rfl) (by kernel_rfl) (fun _ _ _ h => h) (Or.inl ⟨by rfl, ?_⟩) (by assumption) ?_
          rotate_left
          · intro w hSw; (try dsimp only at hSw); go_simp; try with_reducible rfl
          try simp only [put_z]
          refine wpAnyH_take (i := 4) (v := ?_) rfl (by kernel_rfl) (by kernel_rfl) (by kernel_rfl) (fun _ _ _ h => h) (Or.inl ⟨by rfl, ?_⟩) (by assumption) ?_
          rotate_left
          · intro w hSw; (try dsimp only at hSw); go_simp; try with_reducible rfl
          try simp only [put_z]
          refine wpAnyH_ready (rs := [5]) (by kernel_rfl) (by simp) ?_
          refine AllReadyH.cons rfl (fun K hK => ?_) AllReadyH.nil
          go_simp
          refine C3.out.mono ?_
          rintro e w2 ⟨rfl, hu2'⟩
          have hu2 : Upd Non W w2 := Upd.refl.drew.then_non hu2'
          have hlook := (hMW.x.1.upd hu2 (fun f => f)).look Try.underlying70 Try.underlying9 (zeroInt _) (keyE op imm kids)
          have b2 := hMW.blk.upd hu2 (fun f => f)
          have n2 := hnb.upd hu2 (fun f => f)
          go_wp2_with fail
          refine hK.out _ _ ?_ (fun hHeld => ?_)
          · exact ⟨b2.cell 5, n2.cell 0, n2.cell 1, n2.cell 2⟩
          clear hK K
          try simp only [put_z]
          rcases hix with ⟨hnone, hne2⟩ | ⟨i, hi, hsome, heq⟩
          · have hv : idxV (newG (L.take k)).L (keyE op imm kids) = none := by
              unfold idxV
              rw [show idxF (newG (L.take k)).L (keyE op imm kids) = none from hnone]; rfl
            rw [hv] at hlook
            simp only [Option.getD_none, Option.isSome_none] at hlook
            clear hv
            refine wpAnyH_ready (rs := [6]) (by kernel_rfl) (by simp) ?_
            refine AllReadyH.cons rfl (fun K hK => ?_) AllReadyH.nil
            go_simp
            refine hK.out _ _ ?_ (fun hHeld => ?_)
            · exact ⟨b2.cell 5, n2.cell 0, n2.cell 1, n2.cell 2⟩
            clear hK K
            try simp only [put_z]
            refine wpAnyH_take (i := 7) (v := ?_) rfl (by kernel_rfl) (by kernel_rfl) (by kernel_rfl) (fun _ _ _ h => h) (Or.inl ⟨by rfl, ?_⟩) (by assumption) ?_
            rotate_left
            · intro w hSw; (try dsimp only at hSw); go_simp; try with_reducible rfl
            try simp only [put_z]
            refine wpAnyH_take (i := 8) (v := ?_) rfl (by kernel_rfl) (by kernel_rfl) (by kernel_rfl) (fun _ _ _ h => h) (Or.inl ⟨by rfl, ?_⟩) (by assumption) ?_
            rotate_left
            · intro w hSw; (try dsimp only at hSw); go_simp; try with_reducible rfl
            try simp only [put_z]
            refine wpAnyH_take (i := 9) (v := ?_) rfl (by kernel_rfl) (by kernel_rfl) (by kernel_rfl) (fun _ _ _ h => h) (Or.inl ⟨by rfl, ?_⟩) (by assumption) ?_
            rotate_left
            · intro w hSw; (try dsimp only at hSw); go_simp; try with_reducible rfl
            try simp only [put_z]
            refine wpAnyH_ready (rs := [10]) (by kernel_rfl) (by simp) ?_
            refine AllReadyH.cons rfl (fun K hK => ?_) AllReadyH.nil
            go_simp
            refine hK.out _ _ ?_ (fun hHeld => ?_)
            · exact ⟨b2.cell 5, n2.cell 0, n2.cell 1, n2.cell 2⟩
            clear hK K
            try simp only [put_z]
            refine wpAnyH_ready (rs := [11]) (by kernel_rfl) (by simp) ?_
            refine AllReadyH.cons rfl (fun K hK => ?_) AllReadyH.nil
            go_simp
            refine hK.out _ _ ?_ (fun hHeld => ?_)
            · exact ⟨b2.cell 5, n2.cell 0, n2.cell 1, n2.cell 2⟩
            clear hK K
            try simp only [put_z]
            refine wpAnyH_done (by kernel_rfl) ?_ _
            have hM2 := hMW.non hu2
            have m0 : w2.drew.cell? ⟨nb, 0, none⟩ = some (.int .i64 op) := n2.cell 0
            have m1 : w2.drew.cell? ⟨nb, 1, none⟩ = some (.int .i64 imm) := n2.cell 1
            have m2 : w2.drew.cell? ⟨nb, 2, none⟩ = some (.slice KA kids.length kc) := n2.cell 2
            have C4 := Lib.hid (irSort_c w2.drew (· < w.heap.size) (some ⟨lb, lo, none⟩) lc L k ((hLW.upd hu2 (fun _ _ _ f => f)).upd (Upd.refl.drew (S := Non)) (fun _ _ _ f => f)) hlc hlt hn HKK.out)
            rw [sorts_take_get hlt] at C4
            obtain ⟨y, Hy⟩ := nm ((sortsF L).getD k 0)
            rw [Hy.out] at C4
            go_wp2_with fail
            refine wp_region_held_drew (S := fun w' => w'.cell? ⟨nb, 0, none⟩ = some (.int .i64 op) ∧ w'.cell? ⟨nb, 1, none⟩ = some (.int .i64 imm) ∧ w'.cell? ⟨nb, 2, none⟩ = some (.slice KA kids.length kc)) (by kernel_rfl) ⟨m0, m1, m2⟩ (fun hHeld => ?_)
            refine wpAnyH_take (i := 0) (v := ?_) rfl (by kernel_rfl) (by kernel_rfl) (by kernel_rfl) (fun _ _ _ h => h) (Or.inl ⟨by rfl, ?_⟩) (by assumption) ?_
            rotate_left
            · intro w hSw; (try dsimp only at hSw); go_simp; try with_reducible rfl
            try simp only [put_z]
            refine wpAnyH_take (i := 1) (v := ?_) rfl (by kernel_rfl) (by kernel_rfl) (by kernel_rfl) (fun _ _ _ h => h) (Or.inl ⟨by rfl, ?_⟩) (by assumption) ?_
            rotate_left
            · intro w hSw; (try dsimp only at hSw); go_simp; try with_reducible rfl
            try simp only [put_z]
            refine wpAnyH_take (i := 2) (v := ?_) rfl (by kernel_rfl) (by kernel_rfl) (by kernel_rfl) (fun _ _ _ h => h) (Or.inl ⟨by rfl, ?_⟩) (by assumption) ?_
            rotate_left
            · intro w hSw; (try dsimp only at hSw); go_simp; try with_reducible rfl
            try simp only [put_z]
            refine wpAnyH_take (i := 3) (v := ?_) rfl (by kernel_rfl) (by kernel_rfl) (by kernel_rfl) (fun _ _ _ h => h) (Or.inl ⟨by rfl, ?_⟩) (by assumption) ?_
            rotate_left
            · intro w hSw; (try dsimp only at hSw); go_simp; try with_reducible rfl
            try simp only [put_z]
            refine wpAnyH_ready (rs := [4]) (by kernel_rfl) (by simp) ?_
            refine AllReadyH.cons rfl (fun K hK => ?_) AllReadyH.nil
            go_simp
            refine C4.out.mono ?_
            rintro e w3 ⟨rfl, hu3'⟩
            have hu3 : Upd Non w2 w3 := Upd.refl.drew.then_non hu3'
            have n3 := n2.upd hu3 (fun f => f)
            have hM3 := hM2.non hu3
            have C5 := Lib.hid (gInsert_c w3 ρ gb a (newG (L.take k)) hM3 (by simp [newG]; omega) (Named.id _) rfl op imm kids KA kc (· < w.heap.size) ((hkW.upd hu2 (fun _ _ _ f => f)).upd hu3 (fun _ _ _ f => f)) (fun q _ hq => Classical.byContradiction fun hne => by have := Hro.out q hne; omega) hk33 y (HSN.out y Hy.out) hnone)
            unfold gp at C5
            go_wp2_with fail
            refine hK.out _ _ ?_ (fun hHeld => ?_)
            · exact ⟨n3.cell 0, n3.cell 1, n3.cell 2⟩
            clear hK K
            try simp only [put_z]
            refine wpAnyH_ready (rs := [5]) (by kernel_rfl) (by simp) ?_
            refine AllReadyH.cons rfl (fun K hK => ?_) AllReadyH.nil
            go_simp
            refine C5.out.mono ?_
            rintro e w4 ⟨rfl, ρ', a', hM4, hu4, he4⟩
            rw [Hadd.out] at hM4
            have n4 := n3.upd hu4 (fun h => h (Hnb.out w3 (Nat.le_trans hu2.size hu3.size)))
            have hro : ∀ q, ρ' q ≠ .no → w.heap.size ≤ q := fun q hq => by
              by_cases e : q < w3.heap.size
              · exact Hro.out q (by rw [← he4 q e]; exact hq)
              · have := hu3.size; have := hu2.size; have := huW.size; omega
            have huF : Upd Non w w4 := ((huW.then_non hu2).then_non hu3).trans hu4 (fun q hq hm => by have := Hro.out q hm; omega)
            go_wp2_with fail
            refine hK.out _ _ ?_ (fun hHeld => ?_)
            · exact ⟨n4.cell 0, n4.cell 1, n4.cell 2⟩
            clear hK K
            try simp only [put_z]
            refine wpAnyH_done (by kernel_rfl) ?_ _
            go_wp2_with fail
            go_roundg (L.length - (k + 1))
            case measure => rw [Hg.out]; omega
            case rel => exact ⟨k + 1, ρ', a', rfl, by omega, by go_num, hM4, hro, huF, Hnd2.out hne2⟩
          · have hv : idxV (newG (L.take k)).L (keyE op imm kids) = some (.int .i64 (i : Int)) := by
              unfold idxV
              rw [show idxF (newG (L.take k)).L (keyE op imm kids) = some i from hsome]; rfl
            rw [hv] at hlook
            simp only [Option.getD_some, Option.isSome_some] at hlook
            clear hv
            have hdd := Hdup.out ⟨i, hi, heq⟩
            clear heq hsome
            refine wpAnyH_ready (rs := [6]) (by kernel_rfl) (by simp) ?_
            refine AllReadyH.cons rfl (fun K hK => ?_) AllReadyH.nil
            go_simp
            refine hK.out _ _ ?_ (fun hHeld => ?_)
            · exact ⟨b2.cell 5, n2.cell 0, n2.cell 1, n2.cell 2⟩
            clear hK K
            try simp only [put_z]
            refine wpAnyH_take (i := 7) (v := ?_) rfl (by kernel_rfl) (by kernel_rfl) (by kernel_rfl) (fun _ _ _ h => h) (Or.inl ⟨by rfl, ?_⟩) (by assumption) ?_
            rotate_left
            · intro w hSw; (try dsimp only at hSw); go_simp; try with_reducible rfl
            try simp only [put_z]
            refine wpAnyH_take (i := 8) (v := ?_) rfl (by kernel_rfl) (by kernel_rfl) (by kernel_rfl) (fun _ _ _ h => h) (Or.inl ⟨by rfl, ?_⟩) (by assumption) ?_
            rotate_left
            · intro w hSw; (try dsimp only at hSw); go_simp; try with_reducible rfl
            try simp only [put_z]
            refine wpAnyH_take (i := 9) (v := ?_) rfl (by kernel_rfl) (by kernel_rfl) (by kernel_rfl) (fun _ _ _ h => h) (Or.inl ⟨by rfl, ?_⟩) (by assumption) ?_
            rotate_left
            · intro w hSw; (try dsimp only at hSw); go_simp; try with_reducible rfl
            try simp only [put_z]
            refine wpAnyH_ready (rs := [10]) (by kernel_rfl) (by simp) ?_
            refine AllReadyH.cons rfl (fun K hK => ?_) AllReadyH.nil
            go_simp
            refine hK.out _ _ ?_ (fun hHeld => ?_)
            · exact ⟨b2.cell 5, n2.cell 0, n2.cell 1, n2.cell 2⟩
            clear hK K
            try simp only [put_z]
            refine wpAnyH_ready (rs := [11]) (by kernel_rfl) (by simp) ?_
            refine AllReadyH.cons rfl (fun K hK => ?_) AllReadyH.nil
            go_simp
            refine hK.out _ _ ?_ (fun hHeld => ?_)
            · exact ⟨b2.cell 5, n2.cell 0, n2.cell 1, n2.cell 2⟩
            clear hK K
            try simp only [put_z]
            refine wpAnyH_done (by kernel_rfl) ?_ _
            go_wp2_with fail
            go_ret2
            exact ⟨.inr (.inr (.inl ⟨hsm, HAS.out, hdd, rfl⟩)), huW.then_non hu2⟩
        · obtain rfl : L.length = k := by omega
          rw [List.take_length] at hM
          go_wp2_with fail
          go_ret2
          exact ⟨.inr (.inr (.inr ⟨hsm, HAS.out, fun i j hi hj hij => Hnd.out i j hj hj hij, gb, ρ, a, rfl, hM, Hro.out⟩)), hu⟩
end Go.Proofs.Ytigambcefdeaoaa
