/-
  What polynomial.equal does: it tells whether two normal forms are the same.
-/
import Derived.Test.YtnefhokojbkppaaSPoly
namespace Go.Proofs.Ytnefhokojbkppaa
open Go.RowKit

theorem take_snoc_ {α : Type} {L : List α} {k : Nat} (h : k < L.length) : L.take (k + 1) = L.take k ++ [L[k]] := by
  rw [List.take_add_one, List.getElem?_eq_getElem h]; rfl

set_option maxRecDepth 100000 in
set_option maxHeartbeats 4000000 in
theorem pEqual_c (w : World) (F G : Nat → Prop) (A B : Option Addr) (c d : Nat) (La Lb : List Mn) (hA : MonsV w F A La) (hB : MonsV w G B Lb) (z : Nat) (ha : ∀ m ∈ La, m.1.length = z) (hb : ∀ m ∈ Lb, m.1.length = z) (hz : z ≤ 1000000000000) (hn : La.length ≤ 1000000000000) :
    Calls Try.prog 41 #[.slice A La.length c, .slice B Lb.length d] w fun e w' => e = .returned (.bool (decide (La = Lb))) ∧ Upd Non w w' := by
  obtain ⟨n, Hn⟩ := nm La.length
  obtain ⟨m, Hm⟩ := nm Lb.length
  rw [Hn.out, Hm.out]
  rw [Hn.out] at hn
  have HLa := Lib.hid ha
  have HLb := Lib.hid hb
  clear ha hb
  by_cases hnm : n = m
  · subst hnm
    have HF : Hid (∀ k (h1 : k < La.length) (h2 : k < Lb.length), La[k] ≠ Lb[k] → decide (La = Lb) = false) := by
      intro k h1 h2 hne
      refine decide_eq_false ?_
      rintro rfl
      exact hne rfl
    go_enter Try.func41, Try.ntmps41
    go_wp2_with fail
    go_loopg [5, 6, 14] n (fun g _ _ v wr => ∃ k : Nat, Hid (g = n - k) ∧ k ≤ n ∧ v = .int .i64 k ∧ Hid (La.take k = Lb.take k) ∧ Upd Non w wr)
    case atStart => exact ⟨0, rfl, by omega, rfl, rfl, Upd.refl⟩
    case round =>
      obtain ⟨k, Hg, hk, rfl, HT, hu⟩ := hrel
      obtain ⟨wo, rfl⟩ : ∃ wo : World, wo = wr := ⟨_, rfl⟩
      by_cases hlt : k < n
      · have hak : k < La.length := by rw [Hn.out]; exact hlt
        have hbk : k < Lb.length := by rw [Hm.out]; exact hlt
        obtain ⟨b, o, rfl, hF, hbw, KA, kc, h0, h1, h2, h3⟩ := (hA.upd hu (fun _ _ _ f => f)).at_ hak
        obtain ⟨b2, o2, rfl, hG, hbw2, KB, kd, g0, g1, g2, g3⟩ := (hB.upd hu (fun _ _ _ f => f)).at_ hbk
        have HFk := Lib.hid (HF.out k hak hbk)
        have hlx := HLa.out La[k] (List.getElem_mem hak)
        have hly := HLb.out Lb[k] (List.getElem_mem hbk)
        have HTk : Hid (La.take (k + 1) = La.take k ++ [La[k]] ∧ Lb.take (k + 1) = Lb.take k ++ [Lb[k]]) := ⟨take_snoc_ hak, take_snoc_ hbk⟩
        generalize La[k] = x at *
        generalize Lb[k] = y at *
        obtain ⟨xe, xc⟩ := x
        obtain ⟨ye, yc⟩ := y
        dsimp only at h0 h1 h2 h3 g0 g1 g2 g3 hlx hly
        rw [hlx] at h0 h2
        rw [hly] at g0 g2
        have HLX := Lib.hid hlx
        have HLY := Lib.hid hly
        clear hlx hly
        have t1 : decide (k < n) = true := decide_eq_true hlt
        have hk0 : (0 : Int) ≤ k := by omega
        have hkn : (k : Int) < n := by omega
        obtain ⟨wD, HwD⟩ := nm wo.drew
        have uD : Upd Non wo wD := by rw [← HwD.out]; exact Upd.refl.drew
        have HS : Hid (∀ w', Upd Non wo w' → w'.cell? ⟨b, o + k * 2, none⟩ = some (.slice KA z kc) ∧ w'.cell? ⟨b, o + k * 2 + 1, none⟩ = some (.int .u64 xc) ∧ w'.cell? ⟨b2, o2 + k * 2, none⟩ = some (.slice KB z kd) ∧ w'.cell? ⟨b2, o2 + k * 2 + 1, none⟩ = some (.int .u64 yc)) := fun w' u =>
          ⟨cell_upd h0 u (fun f => f), cell_upd h1 u (fun f => f), cell_upd g0 u (fun f => f), cell_upd g1 u (fun f => f)⟩
        go_wp2_with fail
        refine wp_region_held_drew (S := fun w' => w'.cell? ⟨b, o + k * 2, none⟩ = some (.slice KA z kc) ∧ w'.cell? ⟨b, o + k * 2 + 1, none⟩ = some (.int .u64 xc) ∧ w'.cell? ⟨b2, o2 + k * 2, none⟩ = some (.slice KB z kd) ∧ w'.cell? ⟨b2, o2 + k * 2 + 1, none⟩ = some (.int .u64 yc)) (by kernel_rfl) (by rw [HwD.out]; exact HS.out _ uD) (fun hHeld => ?_)
        rw [HwD.out] at hHeld ⊢
        by_cases hc : xc = yc
        · subst hc
          refine wpAnyH_take (i := 0) (v := ?_) rfl (by kernel_rfl) (by kernel_rfl) (by kernel_rfl) (fun _ _ _ h => h) (Or.inl ⟨by rfl, ?_⟩) (by assumption) ?_
          rotate_left
          · intro w hSw; (try dsimp only at hSw); go_simp; try with_reducible rfl
          try simp only [put_y]
          try simp only [Act.put]
          try simp only [put_z]
          refine wpAnyH_take (i := 1) (v := ?_) rfl (by kernel_rfl) (by kernel_rfl) (by kernel_rfl) (fun _ _ _ h => h) (Or.inl ⟨by rfl, ?_⟩) (by assumption) ?_
          rotate_left
          · intro w hSw; (try dsimp only at hSw); go_simp; try with_reducible rfl
          try simp only [put_y]
          try simp only [Act.put]
          try simp only [put_z]
          refine wpAnyH_take (i := 2) (v := ?_) rfl (by kernel_rfl) (by kernel_rfl) (by kernel_rfl) (fun _ _ _ h => h) (Or.inl ⟨by rfl, ?_⟩) (by assumption) ?_
          rotate_left
          · intro w hSw; (try dsimp only at hSw); go_simp; try with_reducible rfl
          try simp only [put_y]
          try simp only [Act.put]
          try simp only [put_z]
          refine wpAnyH_take (i := 3) (v := ?_) rfl (by kernel_rfl) (by kernel_rfl) (by kernel_rfl) (fun _ _ _ h => h) (Or.inl ⟨by rfl, ?_⟩) (by assumption) ?_
          rotate_left
          · intro w hSw; (try dsimp only at hSw); go_simp; try with_reducible rfl
          try simp only [put_y]
          try simp only [Act.put]
          try simp only [put_z]
          refine wpAnyH_take (i := 4) (v := ?_) rfl (by kernel_rfl) (by kernel_rfl) (by kernel_rfl) (fun _ _ _ h => h) (Or.inl ⟨by rfl, ?_⟩) (by assumption) ?_
          rotate_left
          · intro w hSw; (try dsimp only at hSw); go_simp; try with_reducible rfl
          try simp only [put_y]
          try simp only [Act.put]
          try simp only [put_z]
          refine wpAnyH_take (i := 5) (v := ?_) rfl (by kernel_rfl) (by kernel_rfl) (by kernel_rfl) (fun _ _ _ h => h) (Or.inl ⟨by rfl, ?_⟩) (by assumption) ?_
          rotate_left
          · intro w hSw; (try dsimp only at hSw); go_simp; try with_reducible rfl
          try simp only [put_y]
          try simp only [Act.put]
          try simp only [put_z]
          refine wpAnyH_take (i := 6) (v := ?_) rfl (by kernel_rfl) (by kernel_rfl) (by kernel_rfl) (fun _ _ _ h => h) (Or.inl ⟨by rfl, ?_⟩) (by assumption) ?_
          rotate_left
          · intro w hSw; (try dsimp only at hSw); go_simp; try with_reducible rfl
          try simp only [put_y]
          try simp only [Act.put]
          try simp only [put_z]
          refine wpAnyH_take (i := 7) (v := ?_) rfl (by kernel_rfl) (by kernel_rfl) (by kernel_rfl) (fun _ _ _ h => h) (Or.inl ⟨by rfl, ?_⟩) (by assumption) ?_
          rotate_left
          · intro w hSw; (try dsimp only at hSw); go_simp; try with_reducible rfl
          try simp only [put_y]
          try simp only [Act.put]
          try simp only [put_z]
          refine wpAnyH_take (i := 8) (v := ?_) rfl (by kernel_rfl) (by kernel_rfl) (by kernel_rfl) (fun _ _ _ h => h) (Or.inl ⟨by rfl, ?_⟩) (by assumption) ?_
          rotate_left
          · intro w hSw; (try dsimp only at hSw); go_simp; try with_reducible rfl
          try simp only [put_y]
          try simp only [Act.put]
          try simp only [put_z]
          refine wpAnyH_take (i := 9) (v := ?_) rfl (by kernel_rfl) (by kernel_rfl) (by kernel_rfl) (fun _ _ _ h => h) (Or.inl ⟨by rfl, ?_⟩) (by assumption) ?_
          rotate_left
          · intro w hSw; (try dsimp only at hSw); go_simp; try with_reducible rfl
          try simp only [put_y]
          try simp only [Act.put]
          try simp only [put_z]
          refine wpAnyH_take (i := 10) (v := ?_) rfl (by kernel_rfl) (by kernel_rfl) (by kernel_rfl) (fun _ _ _ h => h) (Or.inl ⟨by rfl, ?_⟩) (by assumption) ?_
          rotate_left
          · intro w hSw; (try dsimp only at hSw); go_simp; try with_reducible rfl
          try simp only [put_y]
          try simp only [Act.put]
          try simp only [put_z]
          refine wpAnyH_done (by kernel_rfl) ?_ _
          obtain ⟨q0, q1, q2, q3⟩ := HS.out _ uD
          clear h0 h1 g0 g1
          go_wp2_with fail
          go_loopg [6, 34] z (fun g _ v wr => ∃ j : Nat, Hid (g = z - j) ∧ j ≤ z ∧ v = .int .i64 j ∧ Hid (xe.take j = ye.take j) ∧ Upd Non wo wr)
          case atStart => exact ⟨0, rfl, by omega, rfl, rfl, uD⟩
          case round =>
            obtain ⟨j, Hg2, hj, rfl, HT2, hu2⟩ := hrel
            by_cases hlt2 : j < z
            · have hjx : j < xe.length := by rw [HLX.out]; exact hlt2
              have hjy : j < ye.length := by rw [HLY.out]; exact hlt2
              obtain ⟨bx, ox, rfl, _, _, zx⟩ := Sl.at_ (k := j) (h3.upd hu2 (fun _ _ _ f => f)) (by simpa using hjx)
              obtain ⟨bY, oy, rfl, _, _, zy⟩ := Sl.at_ (k := j) (g3.upd hu2 (fun _ _ _ f => f)) (by simpa using hjy)
              simp only [List.getElem_map] at zx zy
              have HN2 : Hid (xe[j] ≠ ye[j] → xe ≠ ye) := fun h e => h (by subst e; rfl)
              have HT3 : Hid (xe.take (j + 1) = xe.take j ++ [xe[j]] ∧ ye.take (j + 1) = ye.take j ++ [ye[j]]) := ⟨take_snoc_ hjx, take_snoc_ hjy⟩
              generalize xe[j] = ex at *
              generalize ye[j] = ey at *
              have t2 : decide (j < z) = true := decide_eq_true hlt2
              have hj0 : (0 : Int) ≤ j := by omega
              have hjn : (j : Int) < z := by omega
              obtain ⟨wE, HwE⟩ := nm wr.drew
              have uE : Upd Non wr wE := by rw [← HwE.out]; exact Upd.refl.drew
              have HS2 : Hid (∀ w', Upd Non wr w' → w'.cell? ⟨b, o + k * 2, none⟩ = some (.slice (some ⟨bx, ox, none⟩) z kc) ∧ w'.cell? ⟨b2, o2 + k * 2, none⟩ = some (.slice (some ⟨bY, oy, none⟩) z kd) ∧ w'.cell? ⟨bx, ox + j, none⟩ = some (.int .i64 ex) ∧ w'.cell? ⟨bY, oy + j, none⟩ = some (.int .i64 ey)) := fun w' u => by
                obtain ⟨q0, _, q2, _⟩ := HS.out _ (hu2.then_non u)
                exact ⟨q0, q2, cell_upd zx u (fun f => f), cell_upd zy u (fun f => f)⟩
              clear zx zy
              go_wp2_with fail
              refine wp_region_held_drew (S := fun w' => w'.cell? ⟨b, o + k * 2, none⟩ = some (.slice (some ⟨bx, ox, none⟩) z kc) ∧ w'.cell? ⟨b2, o2 + k * 2, none⟩ = some (.slice (some ⟨bY, oy, none⟩) z kd) ∧ w'.cell? ⟨bx, ox + j, none⟩ = some (.int .i64 ex) ∧ w'.cell? ⟨bY, oy + j, none⟩ = some (.int .i64 ey)) (by kernel_rfl) (by rw [HwE.out]; exact HS2.out _ uE) (fun hHeld => ?_)
              rw [HwE.out] at hHeld ⊢
              by_cases hx : ex = ey
              · subst hx
                refine wpAnyH_take (i := 0) (v := ?_) rfl (by kernel_rfl) (by kernel_rfl) (by kernel_rfl) (fun _ _ _ h => h) (Or.inl ⟨by rfl, ?_⟩) (by assumption) ?_
                rotate_left
                · intro w hSw; (try dsimp only at hSw); go_simp; try with_reducible rfl
                try simp only [put_y]
                try simp only [Act.put]
                try simp only [put_z]
                refine wpAnyH_take (i := 1) (v := ?_) rfl (by kernel_rfl) (by kernel_rfl) (by kernel_rfl) (fun _ _ _ h => h) (Or.inl ⟨by rfl, ?_⟩) (by assumption) ?_
                rotate_left
                · intro w hSw; (try dsimp only at hSw); go_simp; try with_reducible rfl
                try simp only [put_y]
                try simp only [Act.put]
                try simp only [put_z]
                refine wpAnyH_take (i := 2) (v := ?_) rfl (by kernel_rfl) (by kernel_rfl) (by kernel_rfl) (fun _ _ _ h => h) (Or.inl ⟨by rfl, ?_⟩) (by assumption) ?_
                rotate_left
                · intro w hSw; (try dsimp only at hSw); go_simp; try with_reducible rfl
                try simp only [put_y]
                try simp only [Act.put]
                try simp only [put_z]
                refine wpAnyH_take (i := 3) (v := ?_) rfl (by kernel_rfl) (by kernel_rfl) (by kernel_rfl) (fun _ _ _ h => h) (Or.inl ⟨by rfl, ?_⟩) (by assumption) ?_
                rotate_left
                · intro w hSw; (try dsimp only at hSw); go_simp; try with_reducible rfl
                try simp only [put_y]
                try simp only [Act.put]
                try simp only [put_z]
                refine wpAnyH_take (i := 4) (v := ?_) rfl (by kernel_rfl) (by kernel_rfl) (by kernel_rfl) (fun _ _ _ h => h) (Or.inl ⟨by rfl, ?_⟩) (by assumption) ?_
                rotate_left
                · intro w hSw; (try dsimp only at hSw); go_simp; try with_reducible rfl
                try simp only [put_y]
                try simp only [Act.put]
                try simp only [put_z]
                refine wpAnyH_take (i := 5) (v := ?_) rfl (by kernel_rfl) (by kernel_rfl) (by kernel_rfl) (fun _ _ _ h => h) (Or.inl ⟨by rfl, ?_⟩) (by assumption) ?_
                rotate_left
                · intro w hSw; (try dsimp only at hSw); go_simp; try with_reducible rfl
                try simp only [put_y]
                try simp only [Act.put]
                try simp only [put_z]
                refine wpAnyH_take (i := 6) (v := ?_) rfl (by kernel_rfl) (by kernel_rfl) (by kernel_rfl) (fun _ _ _ h => h) (Or.inl ⟨by rfl, ?_⟩) (by assumption) ?_
                rotate_left
                · intro w hSw; (try dsimp only at hSw); go_simp; try with_reducible rfl
                try simp only [put_y]
                try simp only [Act.put]
                try simp only [put_z]
                refine wpAnyH_take (i := 7) (v := ?_) rfl (by kernel_rfl) (by kernel_rfl) (by kernel_rfl) (fun _ _ _ h => h) (Or.inl ⟨by rfl, ?_⟩) (by assumption) ?_
                rotate_left
                · intro w hSw; (try dsimp only at hSw); go_simp; try with_reducible rfl
                try simp only [put_y]
                try simp only [Act.put]
                try simp only [put_z]
                refine wpAnyH_take (i := 8) (v := ?_) rfl (by kernel_rfl) (by kernel_rfl) (by kernel_rfl) (fun _ _ _ h => h) (Or.inl ⟨by rfl, ?_⟩) (by assumption) ?_
                rotate_left
                · intro w hSw; (try dsimp only at hSw); go_simp; try with_reducible rfl
                try simp only [put_y]
                try simp only [Act.put]
                try simp only [put_z]
                refine wpAnyH_take (i := 9) (v := ?_) rfl (by kernel_rfl) (by kernel_rfl) (by kernel_rfl) (fun _ _ _ h => h) (Or.inl ⟨by rfl, ?_⟩) (by assumption) ?_
                rotate_left
                · intro w hSw; (try dsimp only at hSw); go_simp; try with_reducible rfl
                try simp only [put_y]
                try simp only [Act.put]
                try simp only [put_z]
                refine wpAnyH_take (i := 10) (v := ?_) rfl (by kernel_rfl) (by kernel_rfl) (by kernel_rfl) (fun _ _ _ h => h) (Or.inl ⟨by rfl, ?_⟩) (by assumption) ?_
                rotate_left
                · intro w hSw; (try dsimp only at hSw); go_simp; try with_reducible rfl
                try simp only [put_y]
                try simp only [Act.put]
                try simp only [put_z]
                refine wpAnyH_take (i := 11) (v := ?_) rfl (by kernel_rfl) (by kernel_rfl) (by kernel_rfl) (fun _ _ _ h => h) (Or.inl ⟨by rfl, ?_⟩) (by assumption) ?_
                rotate_left
                · intro w hSw; (try dsimp only at hSw); go_simp; try with_reducible rfl
                try simp only [put_y]
                try simp only [Act.put]
                try simp only [put_z]
                refine wpAnyH_take (i := 12) (v := ?_) rfl (by kernel_rfl) (by kernel_rfl) (by kernel_rfl) (fun _ _ _ h => h) (Or.inl ⟨by rfl, ?_⟩) (by assumption) ?_
                rotate_left
                · intro w hSw; (try dsimp only at hSw); go_simp; try with_reducible rfl
                try simp only [put_y]
                try simp only [Act.put]
                try simp only [put_z]
                refine wpAnyH_take (i := 13) (v := ?_) rfl (by kernel_rfl) (by kernel_rfl) (by kernel_rfl) (fun _ _ _ h => h) (Or.inl ⟨by rfl, ?_⟩) (by assumption) ?_
                rotate_left
                · intro w hSw; (try dsimp only at hSw); go_simp; try with_reducible rfl
                try simp only [put_y]
                try simp only [Act.put]
                try simp only [put_z]
                refine wpAnyH_take (i := 14) (v := ?_) rfl (by kernel_rfl) (by kernel_rfl) (by kernel_rfl) (fun _ _ _ h => h) (Or.inl ⟨by rfl, ?_⟩) (by assumption) ?_
                rotate_left
                · intro w hSw; (try dsimp only at hSw); go_simp; try with_reducible rfl
                try simp only [put_y]
                try simp only [Act.put]
                try simp only [put_z]
                refine wpAnyH_take (i := 15) (v := ?_) rfl (by kernel_rfl) (by kernel_rfl) (by kernel_rfl) (fun _ _ _ h => h) (Or.inl ⟨by rfl, ?_⟩) (by assumption) ?_
                rotate_left
                · intro w hSw; (try dsimp only at hSw); go_simp; try with_reducible rfl
                try simp only [put_y]
                try simp only [Act.put]
                try simp only [put_z]
                refine wpAnyH_take (i := 16) (v := ?_) rfl (by kernel_rfl) (by kernel_rfl) (by kernel_rfl) (fun _ _ _ h => h) (Or.inl ⟨by rfl, ?_⟩) (by assumption) ?_
                rotate_left
                · intro w hSw; (try dsimp only at hSw); go_simp; try with_reducible rfl
                try simp only [put_y]
                try simp only [Act.put]
                try simp only [put_z]
                refine wpAnyH_done (by kernel_rfl) ?_ _
                have HT4 : Hid (xe.take (j + 1) = ye.take (j + 1)) := by show _ = _; rw [HT3.out.1, HT3.out.2, HT2.out]
                go_wp2_with fail
                go_roundg (z - (j + 1))
                case measure => rw [Hg2.out]; omega
                case rel => exact ⟨j + 1, rfl, by omega, by go_num, HT4, hu2.then_non uE⟩
              · have t3 : (ex != ey) = true := by simpa using hx
                have HR : Hid (decide (La = Lb) = false) := HFk.out (fun e => by
                  injection e with e _
                  exact HN2.out hx e)
                clear hx
                refine wpAnyH_take (i := 0) (v := ?_) rfl (by kernel_rfl) (by kernel_rfl) (by kernel_rfl) (fun _ _ _ h => h) (Or.inl ⟨by rfl, ?_⟩) (by assumption) ?_
                rotate_left
                · intro w hSw; (try dsimp only at hSw); go_simp; try with_reducible rfl
                try simp only [put_y]
                try simp only [Act.put]
                try simp only [put_z]
                refine wpAnyH_take (i := 1) (v := ?_) rfl (by kernel_rfl) (by kernel_rfl) (by kernel_rfl) (fun _ _ _ h => h) (Or.inl ⟨by rfl, ?_⟩) (by assumption) ?_
                rotate_left
                · intro w hSw; (try dsimp only at hSw); go_simp; try with_reducible rfl
                try simp only [put_y]
                try simp only [Act.put]
                try simp only [put_z]
                refine wpAnyH_take (i := 2) (v := ?_) rfl (by kernel_rfl) (by kernel_rfl) (by kernel_rfl) (fun _ _ _ h => h) (Or.inl ⟨by rfl, ?_⟩) (by assumption) ?_
                rotate_left
                · intro w hSw; (try dsimp only at hSw); go_simp; try with_reducible rfl
                try simp only [put_y]
                try simp only [Act.put]
                try simp only [put_z]
                refine wpAnyH_take (i := 3) (v := ?_) rfl (by kernel_rfl) (by kernel_rfl) (by kernel_rfl) (fun _ _ _ h => h) (Or.inl ⟨by rfl, ?_⟩) (by assumption) ?_
                rotate_left
                · intro w hSw; (try dsimp only at hSw); go_simp; try with_reducible rfl
                try simp only [put_y]
                try simp only [Act.put]
                try simp only [put_z]
                refine wpAnyH_take (i := 4) (v := ?_) rfl (by kernel_rfl) (by kernel_rfl) (by kernel_rfl) (fun _ _ _ h => h) (Or.inl ⟨by rfl, ?_⟩) (by assumption) ?_
                rotate_left
                · intro w hSw; (try dsimp only at hSw); go_simp; try with_reducible rfl
                try simp only [put_y]
                try simp only [Act.put]
                try simp only [put_z]
                refine wpAnyH_take (i := 5) (v := ?_) rfl (by kernel_rfl) (by kernel_rfl) (by kernel_rfl) (fun _ _ _ h => h) (Or.inl ⟨by rfl, ?_⟩) (by assumption) ?_
                rotate_left
                · intro w hSw; (try dsimp only at hSw); go_simp; try with_reducible rfl
                try simp only [put_y]
                try simp only [Act.put]
                try simp only [put_z]
                refine wpAnyH_take (i := 6) (v := ?_) rfl (by kernel_rfl) (by kernel_rfl) (by kernel_rfl) (fun _ _ _ h => h) (Or.inl ⟨by rfl, ?_⟩) (by assumption) ?_
                rotate_left
                · intro w hSw; (try dsimp only at hSw); go_simp; try with_reducible rfl
                try simp only [put_y]
                try simp only [Act.put]
                try simp only [put_z]
                refine wpAnyH_take (i := 7) (v := ?_) rfl (by kernel_rfl) (by kernel_rfl) (by kernel_rfl) (fun _ _ _ h => h) (Or.inl ⟨by rfl, ?_⟩) (by assumption) ?_
                rotate_left
                · intro w hSw; (try dsimp only at hSw); go_simp; try with_reducible rfl
                try simp only [put_y]
                try simp only [Act.put]
                try simp only [put_z]
                refine wpAnyH_take (i := 8) (v := ?_) rfl (by kernel_rfl) (by kernel_rfl) (by kernel_rfl) (fun _ _ _ h => h) (Or.inl ⟨by rfl, ?_⟩) (by assumption) ?_
                rotate_left
                · intro w hSw; (try dsimp only at hSw); go_simp; try with_reducible rfl
                try simp only [put_y]
                try simp only [Act.put]
                try simp only [put_z]
                refine wpAnyH_take (i := 9) (v := ?_) rfl (by kernel_rfl) (by kernel_rfl) (by kernel_rfl) (fun _ _ _ h => h) (Or.inl ⟨by rfl, ?_⟩) (by assumption) ?_
                rotate_left
                · intro w hSw; (try dsimp only at hSw); go_simp; try with_reducible rfl
                try simp only [put_y]
                try simp only [Act.put]
                try simp only [put_z]
                refine wpAnyH_take (i := 10) (v := ?_) rfl (by kernel_rfl) (by kernel_rfl) (by kernel_rfl) (fun _ _ _ h => h) (Or.inl ⟨by rfl, ?_⟩) (by assumption) ?_
                rotate_left
                · intro w hSw; (try dsimp only at hSw); go_simp; try with_reducible rfl
                try simp only [put_y]
                try simp only [Act.put]
                try simp only [put_z]
                refine wpAnyH_take (i := 11) (v := ?_) rfl (by kernel_rfl) (by kernel_rfl) (by kernel_rfl) (fun _ _ _ h => h) (Or.inl ⟨by rfl, ?_⟩) (by assumption) ?_
                rotate_left
                · intro w hSw; (try dsimp only at hSw); go_simp; try with_reducible rfl
                try simp only [put_y]
                try simp only [Act.put]
                try simp only [put_z]
                refine wpAnyH_take (i := 12) (v := ?_) rfl (by kernel_rfl) (by kernel_rfl) (by kernel_rfl) (fun _ _ _ h => h) (Or.inl ⟨by rfl, ?_⟩) (by assumption) ?_
                rotate_left
                · intro w hSw; (try dsimp only at hSw); go_simp; try with_reducible rfl
                try simp only [put_y]
                try simp only [Act.put]
                try simp only [put_z]
                refine wpAnyH_take (i := 13) (v := ?_) rfl (by kernel_rfl) (by kernel_rfl) (by kernel_rfl) (fun _ _ _ h => h) (Or.inl ⟨by rfl, ?_⟩) (by assumption) ?_
                rotate_left
                · intro w hSw; (try dsimp only at hSw); go_simp; try with_reducible rfl
                try simp only [put_y]
                try simp only [Act.put]
                try simp only [put_z]
                refine wpAnyH_take (i := 14) (v := ?_) rfl (by kernel_rfl) (by kernel_rfl) (by kernel_rfl) (fun _ _ _ h => h) (Or.inl ⟨by rfl, ?_⟩) (by assumption) ?_
                rotate_left
                · intro w hSw; (try dsimp only at hSw); go_simp; try with_reducible rfl
                try simp only [put_y]
                try simp only [Act.put]
                try simp only [put_z]
                refine wpAnyH_take (i := 15) (v := ?_) rfl (by kernel_rfl) (by kernel_rfl) (by kernel_rfl) (fun _ _ _ h => h) (Or.inl ⟨by rfl, ?_⟩) (by assumption) ?_
                rotate_left
                · intro w hSw; (try dsimp only at hSw); go_simp; try with_reducible rfl
                try simp only [put_y]
                try simp only [Act.put]
                try simp only [put_z]
                refine wpAnyH_take (i := 16) (v := ?_) rfl (by kernel_rfl) (by kernel_rfl) (by kernel_rfl) (fun _ _ _ h => h) (Or.inl ⟨by rfl, ?_⟩) (by assumption) ?_
                rotate_left
                · intro w hSw; (try dsimp only at hSw); go_simp; try with_reducible rfl
                try simp only [put_y]
                try simp only [Act.put]
                try simp only [put_z]
                refine wpAnyH_done (by kernel_rfl) ?_ _
                go_wp2_with fail
                go_ret
                exact ⟨by rw [HR.out]; rfl, hu.then_non (hu2.then_non uE)⟩
            · obtain rfl : z = j := by omega
              have HE : Hid (xe = ye) := by
                have h := HT2.out
                rw [List.take_of_length_le (by rw [HLX.out]; exact Nat.le_refl _), List.take_of_length_le (by rw [HLY.out]; exact Nat.le_refl _)] at h
                exact h
              have HT4 : Hid (La.take (k + 1) = Lb.take (k + 1)) := by show _ = _; rw [HTk.out.1, HTk.out.2, HT.out, HE.out]
              go_wp2_with fail
              go_roundg (n - (k + 1))
              case measure => rw [Hg.out]; omega
              case rel => exact ⟨k + 1, rfl, by omega, by go_num, HT4, hu.then_non hu2⟩
        · have t3 : (xc != yc) = true := by simpa using hc
          have HR : Hid (decide (La = Lb) = false) := HFk.out (fun e => by
            injection e with _ e
            exact hc e)
          clear hc
          refine wpAnyH_take (i := 0) (v := ?_) rfl (by kernel_rfl) (by kernel_rfl) (by kernel_rfl) (fun _ _ _ h => h) (Or.inl ⟨by rfl, ?_⟩) (by assumption) ?_
          rotate_left
          · intro w hSw; (try dsimp only at hSw); go_simp; try with_reducible rfl
          try simp only [put_y]
          try simp only [Act.put]
          try simp only [put_z]
          refine wpAnyH_take (i := 1) (v := ?_) rfl (by kernel_rfl) (by kernel_rfl) (by kernel_rfl) (fun _ _ _ h => h) (Or.inl ⟨by rfl, ?_⟩) (by assumption) ?_
          rotate_left
          · intro w hSw; (try dsimp only at hSw); go_simp; try with_reducible rfl
          try simp only [put_y]
          try simp only [Act.put]
          try simp only [put_z]
          refine wpAnyH_take (i := 2) (v := ?_) rfl (by kernel_rfl) (by kernel_rfl) (by kernel_rfl) (fun _ _ _ h => h) (Or.inl ⟨by rfl, ?_⟩) (by assumption) ?_
          rotate_left
          · intro w hSw; (try dsimp only at hSw); go_simp; try with_reducible rfl
          try simp only [put_y]
          try simp only [Act.put]
          try simp only [put_z]
          refine wpAnyH_take (i := 3) (v := ?_) rfl (by kernel_rfl) (by kernel_rfl) (by kernel_rfl) (fun _ _ _ h => h) (Or.inl ⟨by rfl, ?_⟩) (by assumption) ?_
          rotate_left
          · intro w hSw; (try dsimp only at hSw); go_simp; try with_reducible rfl
          try simp only [put_y]
          try simp only [Act.put]
          try simp only [put_z]
          refine wpAnyH_take (i := 4) (v := ?_) rfl (by kernel_rfl) (by kernel_rfl) (by kernel_rfl) (fun _ _ _ h => h) (Or.inl ⟨by rfl, ?_⟩) (by assumption) ?_
          rotate_left
          · intro w hSw; (try dsimp only at hSw); go_simp; try with_reducible rfl
          try simp only [put_y]
          try simp only [Act.put]
          try simp only [put_z]
          refine wpAnyH_take (i := 5) (v := ?_) rfl (by kernel_rfl) (by kernel_rfl) (by kernel_rfl) (fun _ _ _ h => h) (Or.inl ⟨by rfl, ?_⟩) (by assumption) ?_
          rotate_left
          · intro w hSw; (try dsimp only at hSw); go_simp; try with_reducible rfl
          try simp only [put_y]
          try simp only [Act.put]
          try simp only [put_z]
          refine wpAnyH_take (i := 6) (v := ?_) rfl (by kernel_rfl) (by kernel_rfl) (by kernel_rfl) (fun _ _ _ h => h) (Or.inl ⟨by rfl, ?_⟩) (by assumption) ?_
          rotate_left
          · intro w hSw; (try dsimp only at hSw); go_simp; try with_reducible rfl
          try simp only [put_y]
          try simp only [Act.put]
          try simp only [put_z]
          refine wpAnyH_take (i := 7) (v := ?_) rfl (by kernel_rfl) (by kernel_rfl) (by kernel_rfl) (fun _ _ _ h => h) (Or.inl ⟨by rfl, ?_⟩) (by assumption) ?_
          rotate_left
          · intro w hSw; (try dsimp only at hSw); go_simp; try with_reducible rfl
          try simp only [put_y]
          try simp only [Act.put]
          try simp only [put_z]
          refine wpAnyH_take (i := 8) (v := ?_) rfl (by kernel_rfl) (by kernel_rfl) (by kernel_rfl) (fun _ _ _ h => h) (Or.inl ⟨by rfl, ?_⟩) (by assumption) ?_
          rotate_left
          · intro w hSw; (try dsimp only at hSw); go_simp; try with_reducible rfl
          try simp only [put_y]
          try simp only [Act.put]
          try simp only [put_z]
          refine wpAnyH_take (i := 9) (v := ?_) rfl (by kernel_rfl) (by kernel_rfl) (by kernel_rfl) (fun _ _ _ h => h) (Or.inl ⟨by rfl, ?_⟩) (by assumption) ?_
          rotate_left
          · intro w hSw; (try dsimp only at hSw); go_simp; try with_reducible rfl
          try simp only [put_y]
          try simp only [Act.put]
          try simp only [put_z]
          refine wpAnyH_take (i := 10) (v := ?_) rfl (by kernel_rfl) (by kernel_rfl) (by kernel_rfl) (fun _ _ _ h => h) (Or.inl ⟨by rfl, ?_⟩) (by assumption) ?_
          rotate_left
          · intro w hSw; (try dsimp only at hSw); go_simp; try with_reducible rfl
          try simp only [put_y]
          try simp only [Act.put]
          try simp only [put_z]
          refine wpAnyH_done (by kernel_rfl) ?_ _
          go_wp2_with fail
          go_ret
          exact ⟨by rw [HR.out]; rfl, hu.then_non uD⟩
      · obtain rfl : n = k := by omega
        have HR : Hid (decide (La = Lb) = true) := decide_eq_true (by
          have h := HT.out
          rw [List.take_of_length_le (by rw [Hn.out]; exact Nat.le_refl _), List.take_of_length_le (by rw [Hm.out]; exact Nat.le_refl _)] at h
          exact h)
        go_wp2_with fail
        go_ret
        exact ⟨by rw [HR.out]; rfl, hu⟩
  · have HR : Hid (decide (La = Lb) = false) := decide_eq_false (fun e => hnm (by rw [← Hn.out, ← Hm.out, e]))
    have t1 : ((n : Int) != (m : Int)) = true := by simp; omega
    have t2 : (n != m) = true := by simp; omega
    go_enter Try.func41, Try.ntmps41
    go_wp2_with fail
    go_ret
    exact ⟨by rw [HR.out]; rfl, Upd.refl⟩
end Go.Proofs.Ytnefhokojbkppaa
