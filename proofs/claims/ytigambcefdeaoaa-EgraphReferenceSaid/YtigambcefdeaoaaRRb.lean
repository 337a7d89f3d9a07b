/-
  What the reference's rebuildStep does: it merges the next two congruent nodes.
  What the reference's Rebuild does.
-/
import Derived.Test.YtigambcefdeaoaaRGr
namespace Go.Proofs.Ytigambcefdeaoaa
open Go.RowKit

theorem first_le {c : Nat → Nat} {L : List Nd} {i j : Nat} (hij : i < j) (hc : cgB c (L.getD i nd0) (L.getD j nd0) = true) : ∃ f, firstCg c L j = some f ∧ f ≤ i := by
  cases e : firstCg c L j with
  | none => have := find_range_none.1 e i hij; rw [hc] at this; cases this
  | some f =>
    refine ⟨f, rfl, ?_⟩
    rcases Nat.lt_or_ge i f with q | q
    · have := (find_range.1 e).2.2 i q; rw [hc] at this; cases this
    · exact q
/-- Ahead of j all congruent nodes are equal. -/
def RSeen (c : Nat → Nat) (L : List Nd) (j : Nat) : Prop := ∀ q, q < j → ∀ k, k < q → cgB c (L.getD k nd0) (L.getD q nd0) = true → c k = c q
def RSeenI (c : Nat → Nat) (L : List Nd) (j i : Nat) : Prop := ∀ k, k < i → cgB c (L.getD k nd0) (L.getD j nd0) = true → c k = c j
theorem RSeen.succ {c : Nat → Nat} {L : List Nd} {j : Nat} (h : RSeen c L j) (hi : RSeenI c L j j) : RSeen c L (j + 1) := fun q hq k hk hc => by
  by_cases e : q = j
  · subst e; exact hi k hk hc
  · exact h q (by omega) k hk hc
theorem RSeenI.succ {c : Nat → Nat} {L : List Nd} {j i : Nat} (h : RSeenI c L j i) (hi : cgB c (L.getD i nd0) (L.getD j nd0) = true → c i = c j) : RSeenI c L j (i + 1) := fun k hk hc => by
  by_cases e : k = i
  · subst e; exact hi hc
  · exact h k (by omega) hc
theorem RSeen.noAt {c : Nat → Nat} {L : List Nd} {j q : Nat} (h : RSeen c L j) (hq : q < j) : rebAt c L q = none := by
  unfold rebAt
  cases e : firstCg c L q with
  | none => rfl
  | some f =>
    obtain ⟨h1, h2, _⟩ := find_range.1 e
    simp [h q hq f h1 h2]
theorem RSeen.none_ {c : Nat → Nat} {L : List Nd} (h : RSeen c L L.length) : reb c L = none := reb_no fun _ hq => h.noAt hq
theorem RSeen.found {c : Nat → Nat} {L : List Nd} {j i : Nat} (hj : j < L.length) (hij : i < j) (h : RSeen c L j) (hi : RSeenI c L j i) (hc : cgB c (L.getD i nd0) (L.getD j nd0) = true) (hne : c i ≠ c j) : reb c L = some (i, j) := by
  refine reb_at hj (fun _ hq => h.noAt hq) ?_
  obtain ⟨f, hf, hle⟩ := first_le hij hc
  have : f = i := Decidable.byContradiction fun hn => by
    have h2 := (find_range.1 hf).2.1
    have e1 := hi f (by omega) h2
    have e2 := h i hij f (by omega) (cgB_trans h2 (cgB_symm hc))
    exact hne (by rw [← e2, e1])
  subst this
  unfold rebAt
  rw [hf]
  simp [hne]
theorem EG.Wf.cg_iff {G : EG} (h : G.Wf) {i j : Nat} (hi : i < G.L.length) (hj : j < G.L.length) : Cg G.L.length G.c G.L[i] G.L[j] ↔ cgB G.c (G.L.getD i nd0) (G.L.getD j nd0) = true := by
  refine ⟨fun hc => ?_, fun hc => h.cg hi hj hc⟩
  rw [getD_of hi, getD_of hj, cgB_iff]
  exact ⟨hc.1, hc.2.1, hc.2.2.2.2⟩

set_option maxRecDepth 100000 in
set_option maxHeartbeats 4000000 in
theorem rRebStep_c (w : World) (ρ : Nat → Role) (rb : Nat) (a : RA) (G : EG) (h : RM w ρ rb a G) (hg : GWf G) (hT : G.T.length ≤ 1000000000) :
    Calls Try.prog 57 #[gp rb] w fun e w' => (reb G.c G.L = none ∧ e = .returned (.bool false) ∧ RNext w ρ rb w' G) ∨ ∃ i j, reb G.c G.L = some (i, j) ∧ e = .returned (.bool true) ∧ RNext w ρ rb w' (G.merge (cgStep i j)) := by
  have H := Lib.hid h
  have HG := Lib.hid hg
  have hn := hg.wf.small
  have c0 := h.c0
  have c2 := h.c2
  obtain ⟨n, Hn⟩ := nm G.L.length
  rw [Hn.out] at c0 c2 hn
  unfold gp
  clear h hg
  go_enter Try.func57, Try.ntmps57
  go_wp2_with fail
  go_loopg [3, 4] n (fun g jv iv wr => ∃ j : Nat, Hid (g = n - j) ∧ j ≤ n ∧ jv = .int .i64 j ∧ Hid (RSeen G.c G.L j) ∧ Upd Non w wr)
  case atStart => exact ⟨0, rfl, by omega, rfl, fun q hq => by omega, Upd.refl⟩
  case round =>
    obtain ⟨j, Hg, hj, rfl, HS, hu⟩ := hrel
    have c0r := cell_upd c0 hu (fun f => f)
    by_cases hlt : j < n
    · obtain ⟨w3, e3⟩ : ∃ w3 : World, w3 = wr := ⟨_, rfl⟩
      subst e3
      go_wp2_with fail
      go_loopg [4] j (fun g iv wr => ∃ i : Nat, Hid (g = j - i) ∧ i ≤ j ∧ iv = .int .i64 i ∧ Hid (RSeenI G.c G.L j i) ∧ Upd Non w wr)
      case atStart => exact ⟨0, rfl, by omega, rfl, fun q hq => by omega, hu⟩
      case round =>
        clear hu c0r
        obtain ⟨i, Hgi, hi, rfl, HI, hu⟩ := hrel
        by_cases hij : i < j
        · have hM := H.out.non hu
          have hiL : i < G.L.length := by rw [Hn.out]; omega
          have hjL : j < G.L.length := by rw [Hn.out]; exact hlt
          obtain ⟨fb, ef, hfb, hci⟩ := hM.fat hiL
          obtain ⟨fb', ef', _, hcj⟩ := hM.fat hjL
          obtain rfl : fb = fb' := by rw [ef] at ef'; injection ef' with e; injection e
          obtain ⟨lb, lo, ea, _, hlb, n1, n2, KA, kc, n3, hkc, hki⟩ := hM.lv.at_ hiL
          obtain ⟨lb', lo', ea', _, hlb', m1, m2, KB, kd, m3, hkd, hkj⟩ := hM.lv.at_ hjL
          obtain ⟨rfl, rfl⟩ : lb = lb' ∧ lo = lo' := by rw [ea] at ea'; injection ea' with e; injection e with e1 e2; exact ⟨e1, e2⟩
          have c0' := cell_upd c0 hu (fun f => f)
          have c2' := cell_upd c2 hu (fun f => f)
          rw [ea] at c0'
          rw [ef] at c2'
          have i0 : (0 : Int) ≤ (i : Int) := by omega
          have i1 : (i : Int) < (n : Int) := by omega
          have j0 : (0 : Int) ≤ (j : Int) := by omega
          have j1 : (j : Int) < (n : Int) := by omega
          by_cases hne : G.c i = G.c j
          · have HI2 := Lib.hid (HI.out.succ (fun _ => hne))
            rw [← hne] at hcj
            generalize G.c i = x at *
            have t1 : ((x : Int) != (x : Int)) = false := by simp
            clear hM hne n1 n2 n3 m1 m2 m3 ea ea' ef ef'
            go_wp2_with fail
            go_quiet (fail)
            go_wp2_with fail
            go_roundg (j - (i + 1))
            case measure => rw [Hgi.out]; omega
            case rel => exact ⟨i + 1, rfl, by omega, by go_num, HI2, hu.drewN _⟩
          · have hkl := HG.out.klen hiL
            have C1 := Lib.hid (fun W (u : Upd Non wr W) => congruent_c fb a.fc n W G.c _ G.L[i] G.L[j] KA KB kc kd (by
              have := (hM.non u).row
              rcases this with q | ⟨g, eg, q⟩
              · have := congrArg List.length q; rw [List.length_map, List.length_range, List.length_nil] at this; omega
              · rw [ef] at eg; injection eg with e; injection e with e; subst e; rw [Hn.out] at q; exact q) (hki.upd u (fun _ _ _ f => f)) (hkj.upd u (fun _ _ _ f => f)) (by omega))
            have HY := Lib.hid (fun hc => RSeen.found hjL hij HS.out HI.out hc hne)
            have HN := Lib.hid (fun hc : ¬ cgB G.c (G.L.getD i nd0) (G.L.getD j nd0) = true => HI.out.succ (fun q => absurd q hc))
            have HC := Lib.hid (HG.out.wf.cg_iff hiL hjL)
            rw [Hn.out] at HC
            generalize G.L[i] = na at *
            generalize G.L[j] = nb at *
            have t1 : ((G.c i : Int) != (G.c j : Int)) = true := by rw [bne_iff_ne]; intro q; exact hne (by exact_mod_cast q)
            obtain ⟨bb, Hbb⟩ := nm (decide (Cg n G.c na nb))
            rw [Hbb.out] at C1
            obtain ⟨x, Hx⟩ := nm (G.c i)
            obtain ⟨y, Hy⟩ := nm (G.c j)
            rw [Hx.out] at hci t1
            rw [Hy.out] at hcj t1
            clear hM hne ea ea' ef'
            have Hef := Lib.hid ef
            clear ef
            have s0 : wr.drew.cell? ⟨rb, 0, none⟩ = some (.slice (some ⟨lb, lo, none⟩) n a.lc) := c0'
            have s2 : wr.drew.cell? ⟨rb, 2, none⟩ = some (.slice (some ⟨fb, 0, none⟩) n a.fc) := c2'
            have si : wr.drew.cell? ⟨fb, i, none⟩ = some (.int .i64 (x : Int)) := hci
            have sj : wr.drew.cell? ⟨fb, j, none⟩ = some (.int .i64 (y : Int)) := hcj
            have a1 : wr.drew.cell? ⟨lb, lo + i * 3, none⟩ = some (.int .i64 na.op) := n1
            have a2 : wr.drew.cell? ⟨lb, lo + i * 3 + 1, none⟩ = some (.int .i64 na.imm) := n2
            have a3 : wr.drew.cell? ⟨lb, lo + i * 3 + 2, none⟩ = some (.slice KA na.kids.length kc) := n3
            have b1 : wr.drew.cell? ⟨lb, lo + j * 3, none⟩ = some (.int .i64 nb.op) := m1
            have b2 : wr.drew.cell? ⟨lb, lo + j * 3 + 1, none⟩ = some (.int .i64 nb.imm) := m2
            have b3 : wr.drew.cell? ⟨lb, lo + j * 3 + 2, none⟩ = some (.slice KB nb.kids.length kd) := m3
            obtain ⟨w4, e4⟩ : ∃ w4 : World, w4 = wr := ⟨_, rfl⟩
            subst e4
            go_wp2_with fail
            refine wp_region_held_drew (S := fun w' => w'.cell? ⟨rb, 0, none⟩ = some (.slice (some ⟨lb, lo, none⟩) n a.lc) ∧ w'.cell? ⟨rb, 2, none⟩ = some (.slice (some ⟨fb, 0, none⟩) n a.fc) ∧ w'.cell? ⟨fb, i, none⟩ = some (.int .i64 (x : Int)) ∧ w'.cell? ⟨fb, j, none⟩ = some (.int .i64 (y : Int)) ∧ w'.cell? ⟨lb, lo + i * 3, none⟩ = some (.int .i64 na.op) ∧ w'.cell? ⟨lb, lo + i * 3 + 1, none⟩ = some (.int .i64 na.imm) ∧ w'.cell? ⟨lb, lo + i * 3 + 2, none⟩ = some (.slice KA na.kids.length kc) ∧ w'.cell? ⟨lb, lo + j * 3, none⟩ = some (.int .i64 nb.op) ∧ w'.cell? ⟨lb, lo + j * 3 + 1, none⟩ = some (.int .i64 nb.imm) ∧ w'.cell? ⟨lb, lo + j * 3 + 2, none⟩ = some (.slice KB nb.kids.length kd)) (by kernel_rfl) ⟨s0, s2, si, sj, a1, a2, a3, b1, b2, b3⟩ (fun hHeld => ?_)
            refine wpAnyH_take (i := 0) (v := ?_) rfl (by kernel_rfl) (by kernel_rfl) (by kernel_rfl) (fun _ _ _ h => h) (Or.inl ⟨by rfl, ?_⟩) (by assumption) ?_
            rotate_left
            · intro w hSw; (try dsimp only at hSw); go_simp; try with_reducible rfl
            try simp only [put_y]
            try simp only [Act.put]
            try simp only [put_z]
            refine wpAnyH_take (i := 1) (v := ?_) rfl (by kernel_rfl) (by kernel_rfl) (by kernel_rfl) (fun _ _ _ h => h) (Or.inl ⟨by rfl, ?_⟩) (by assumption) ?_
            rotate_left
            · intro w hSw; (try dsimp only at hSw); go_simp; try with_reducible rfl
            try simp only [put_y]
            try simp only [Act.put]
            try simp only [put_z]
            refine wpAnyH_take (i := 2) (v := ?_) rfl (by kernel_rfl) (by kernel_rfl) (by kernel_rfl) (fun _ _ _ h => h) (Or.inl ⟨by rfl, ?_⟩) (by assumption) ?_
            rotate_left
            · intro w hSw; (try dsimp only at hSw); go_simp; try with_reducible rfl
            try simp only [put_y]
            try simp only [Act.put]
            try simp only [put_z]
            refine wpAnyH_take (i := 3) (v := ?_) rfl (by kernel_rfl) (by kernel_rfl) (by kernel_rfl) (fun _ _ _ h => h) (Or.inl ⟨by rfl, ?_⟩) (by assumption) ?_
            rotate_left
            · intro w hSw; (try dsimp only at hSw); go_simp; try with_reducible rfl
            try simp only [put_y]
            try simp only [Act.put]
            try simp only [put_z]
            refine wpAnyH_take (i := 4) (v := ?_) rfl (by kernel_rfl) (by kernel_rfl) (by kernel_rfl) (fun _ _ _ h => h) (Or.inl ⟨by rfl, ?_⟩) (by assumption) ?_
            rotate_left
            · intro w hSw; (try dsimp only at hSw); go_simp; try with_reducible rfl
            try simp only [put_y]
            try simp only [Act.put]
            try simp only [put_z]
            refine wpAnyH_take (i := 5) (v := ?_) rfl (by kernel_rfl) (by kernel_rfl) (by kernel_rfl) (fun _ _ _ h => h) (Or.inl ⟨by rfl, ?_⟩) (by assumption) ?_
            rotate_left
            · intro w hSw; (try dsimp only at hSw); go_simp; try with_reducible rfl
            try simp only [put_y]
            try simp only [Act.put]
            try simp only [put_z]
            refine wpAnyH_take (i := 6) (v := ?_) rfl (by kernel_rfl) (by kernel_rfl) (by kernel_rfl) (fun _ _ _ h => h) (Or.inl ⟨by rfl, ?_⟩) (by assumption) ?_
            rotate_left
            · intro w hSw; (try dsimp only at hSw); go_simp; try with_reducible rfl
            try simp only [put_y]
            try simp only [Act.put]
            try simp only [put_z]
            refine wpAnyH_take (i := 7) (v := ?_) rfl (by kernel_rfl) (by kernel_rfl) (by kernel_rfl) (fun _ _ _ h => h) (Or.inl ⟨by rfl, ?_⟩) (by assumption) ?_
            rotate_left
            · intro w hSw; (try dsimp only at hSw); go_simp; try with_reducible rfl
            try simp only [put_y]
            try simp only [Act.put]
            try simp only [put_z]
            refine wpAnyH_take (i := 8) (v := ?_) rfl (by kernel_rfl) (by kernel_rfl) (by kernel_rfl) (fun _ _ _ h => h) (Or.inl ⟨by rfl, ?_⟩) (by assumption) ?_
            rotate_left
            · intro w hSw; (try dsimp only at hSw); go_simp; try with_reducible rfl
            try simp only [put_y]
            try simp only [Act.put]
            try simp only [put_z]
            refine wpAnyH_take (i := 9) (v := ?_) rfl (by kernel_rfl) (by kernel_rfl) (by kernel_rfl) (fun _ _ _ h => h) (Or.inl ⟨by rfl, ?_⟩) (by assumption) ?_
            rotate_left
            · intro w hSw; (try dsimp only at hSw); go_simp; try with_reducible rfl
            try simp only [put_y]
            try simp only [Act.put]
            try simp only [put_z]
            refine wpAnyH_take (i := 10) (v := ?_) rfl (by kernel_rfl) (by kernel_rfl) (by kernel_rfl) (fun _ _ _ h => h) (Or.inl ⟨by rfl, ?_⟩) (by assumption) ?_
            rotate_left
            · intro w hSw; (try dsimp only at hSw); go_simp; try with_reducible rfl
            try simp only [put_y]
            try simp only [Act.put]
            try simp only [put_z]
            refine wpAnyH_take (i := 11) (v := ?_) rfl (by kernel_rfl) (by kernel_rfl) (by kernel_rfl) (fun _ _ _ h => h) (Or.inl ⟨by rfl, ?_⟩) (by assumption) ?_
            rotate_left
            · intro w hSw; (try dsimp only at hSw); go_simp; try with_reducible rfl
            try simp only [put_y]
            try simp only [Act.put]
            try simp only [put_z]
            refine wpAnyH_take (i := 12) (v := ?_) rfl (by kernel_rfl) (by kernel_rfl) (by kernel_rfl) (fun _ _ _ h => h) (Or.inl ⟨by rfl, ?_⟩) (by assumption) ?_
            rotate_left
            · intro w hSw; (try dsimp only at hSw); go_simp; try with_reducible rfl
            try simp only [put_y]
            try simp only [Act.put]
            try simp only [put_z]
            refine wpAnyH_take (i := 13) (v := ?_) rfl (by kernel_rfl) (by kernel_rfl) (by kernel_rfl) (fun _ _ _ h => h) (Or.inl ⟨by rfl, ?_⟩) (by assumption) ?_
            rotate_left
            · intro w hSw; (try dsimp only at hSw); go_simp; try with_reducible rfl
            try simp only [put_y]
            try simp only [Act.put]
            try simp only [put_z]
            refine wpAnyH_take (i := 14) (v := ?_) rfl (by kernel_rfl) (by kernel_rfl) (by kernel_rfl) (fun _ _ _ h => h) (Or.inl ⟨by rfl, ?_⟩) (by assumption) ?_
            rotate_left
            · intro w hSw; (try dsimp only at hSw); go_simp; try with_reducible rfl
            try simp only [put_y]
            try simp only [Act.put]
            try simp only [put_z]
            refine wpAnyH_take (i := 15) (v := ?_) rfl (by kernel_rfl) (by kernel_rfl) (by kernel_rfl) (fun _ _ _ h => h) (Or.inl ⟨by rfl, ?_⟩) (by assumption) ?_
            rotate_left
            · intro w hSw; (try dsimp only at hSw); go_simp; try with_reducible rfl
            try simp only [put_y]
            try simp only [Act.put]
            try simp only [put_z]
            refine wpAnyH_take (i := 16) (v := ?_) rfl (by kernel_rfl) (by kernel_rfl) (by kernel_rfl) (fun _ _ _ h => h) (Or.inl ⟨by rfl, ?_⟩) (by assumption) ?_
            rotate_left
            · intro w hSw; (try dsimp only at hSw); go_simp; try with_reducible rfl
            try simp only [put_y]
            try simp only [Act.put]
            try simp only [put_z]
            refine wpAnyH_take (i := 17) (v := ?_) rfl (by kernel_rfl) (by kernel_rfl) (by kernel_rfl) (fun _ _ _ h => h) (Or.inl ⟨by rfl, ?_⟩) (by assumption) ?_
            rotate_left
            · intro w hSw; (try dsimp only at hSw); go_simp; try with_reducible rfl
            try simp only [put_y]
            try simp only [Act.put]
            try simp only [put_z]
            refine wpAnyH_take (i := 18) (v := ?_) rfl (by kernel_rfl) (by kernel_rfl) (by kernel_rfl) (fun _ _ _ h => h) (Or.inl ⟨by rfl, ?_⟩) (by assumption) ?_
            rotate_left
            · intro w hSw; (try dsimp only at hSw); go_simp; try with_reducible rfl
            try simp only [put_y]
            try simp only [Act.put]
            try simp only [put_z]
            refine wpAnyH_take (i := 19) (v := ?_) rfl (by kernel_rfl) (by kernel_rfl) (by kernel_rfl) (fun _ _ _ h => h) (Or.inl ⟨by rfl, ?_⟩) (by assumption) ?_
            rotate_left
            · intro w hSw; (try dsimp only at hSw); go_simp; try with_reducible rfl
            try simp only [put_y]
            try simp only [Act.put]
            try simp only [put_z]
            refine wpAnyH_take (i := 20) (v := ?_) rfl (by kernel_rfl) (by kernel_rfl) (by kernel_rfl) (fun _ _ _ h => h) (Or.inl ⟨by rfl, ?_⟩) (by assumption) ?_
            rotate_left
            · intro w hSw; (try dsimp only at hSw); go_simp; try with_reducible rfl
            try simp only [put_y]
            try simp only [Act.put]
            try simp only [put_z]
            refine wpAnyH_take (i := 21) (v := ?_) rfl (by kernel_rfl) (by kernel_rfl) (by kernel_rfl) (fun _ _ _ h => h) (Or.inl ⟨by rfl, ?_⟩) (by assumption) ?_
            rotate_left
            · intro w hSw; (try dsimp only at hSw); go_simp; try with_reducible rfl
            try simp only [put_y]
            try simp only [Act.put]
            try simp only [put_z]
            refine wpAnyH_take (i := 22) (v := ?_) rfl (by kernel_rfl) (by kernel_rfl) (by kernel_rfl) (fun _ _ _ h => h) (Or.inl ⟨by rfl, ?_⟩) (by assumption) ?_
            rotate_left
            · intro w hSw; (try dsimp only at hSw); go_simp; try with_reducible rfl
            try simp only [put_y]
            try simp only [Act.put]
            try simp only [put_z]
            refine wpAnyH_take (i := 23) (v := ?_) rfl (by kernel_rfl) (by kernel_rfl) (by kernel_rfl) (fun _ _ _ h => h) (Or.inl ⟨by rfl, ?_⟩) (by assumption) ?_
            rotate_left
            · intro w hSw; (try dsimp only at hSw); go_simp; try with_reducible rfl
            try simp only [put_y]
            try simp only [Act.put]
            try simp only [put_z]
            refine wpAnyH_take (i := 24) (v := ?_) rfl (by kernel_rfl) (by kernel_rfl) (by kernel_rfl) (fun _ _ _ h => h) (Or.inl ⟨by rfl, ?_⟩) (by assumption) ?_
            rotate_left
            · intro w hSw; (try dsimp only at hSw); go_simp; try with_reducible rfl
            try simp only [put_y]
            try simp only [Act.put]
            try simp only [put_z]
            refine wpAnyH_take (i := 25) (v := ?_) rfl (by kernel_rfl) (by kernel_rfl) (by kernel_rfl) (fun _ _ _ h => h) (Or.inl ⟨by rfl, ?_⟩) (by assumption) ?_
            rotate_left
            · intro w hSw; (try dsimp only at hSw); go_simp; try with_reducible rfl
            try simp only [put_y]
            try simp only [Act.put]
            try simp only [put_z]
            refine wpAnyH_take (i := 26) (v := ?_) rfl (by kernel_rfl) (by kernel_rfl) (by kernel_rfl) (fun _ _ _ h => h) (Or.inl ⟨by rfl, ?_⟩) (by assumption) ?_
            rotate_left
            · intro w hSw; (try dsimp only at hSw); go_simp; try with_reducible rfl
            try simp only [put_y]
            try simp only [Act.put]
            try simp only [put_z]
            refine wpAnyH_take (i := 27) (v := ?_) rfl (by kernel_rfl) (by kernel_rfl) (by kernel_rfl) (fun _ _ _ h => h) (Or.inl ⟨by rfl, ?_⟩) (by assumption) ?_
            rotate_left
            · intro w hSw; (try dsimp only at hSw); go_simp; try with_reducible rfl
            try simp only [put_y]
            try simp only [Act.put]
            try simp only [put_z]
            refine wpAnyH_take (i := 28) (v := ?_) rfl (by kernel_rfl) (by kernel_rfl) (by kernel_rfl) (fun _ _ _ h => h) (Or.inl ⟨by rfl, ?_⟩) (by assumption) ?_
            rotate_left
            · intro w hSw; (try dsimp only at hSw); go_simp; try with_reducible rfl
            try simp only [put_y]
            try simp only [Act.put]
            try simp only [put_z]
            refine wpAnyH_take (i := 29) (v := ?_) rfl (by kernel_rfl) (by kernel_rfl) (by kernel_rfl) (fun _ _ _ h => h) (Or.inl ⟨by rfl, ?_⟩) (by assumption) ?_
            rotate_left
            · intro w hSw; (try dsimp only at hSw); go_simp; try with_reducible rfl
            try simp only [put_y]
            try simp only [Act.put]
            try simp only [put_z]
            refine wpAnyH_take (i := 30) (v := ?_) rfl (by kernel_rfl) (by kernel_rfl) (by kernel_rfl) (fun _ _ _ h => h) (Or.inl ⟨by rfl, ?_⟩) (by assumption) ?_
            rotate_left
            · intro w hSw; (try dsimp only at hSw); go_simp; try with_reducible rfl
            try simp only [put_y]
            try simp only [Act.put]
            try simp only [put_z]
            refine wpAnyH_take (i := 31) (v := ?_) rfl (by kernel_rfl) (by kernel_rfl) (by kernel_rfl) (fun _ _ _ h => h) (Or.inl ⟨by rfl, ?_⟩) (by assumption) ?_
            rotate_left
            · intro w hSw; (try dsimp only at hSw); go_simp; try with_reducible rfl
            try simp only [put_y]
            try simp only [Act.put]
            try simp only [put_z]
            refine wpAnyH_take (i := 32) (v := ?_) rfl (by kernel_rfl) (by kernel_rfl) (by kernel_rfl) (fun _ _ _ h => h) (Or.inl ⟨by rfl, ?_⟩) (by assumption) ?_
            rotate_left
            · intro w hSw; (try dsimp only at hSw); go_simp; try with_reducible rfl
            try simp only [put_y]
            try simp only [Act.put]
            try simp only [put_z]
            refine wpAnyH_take (i := 33) (v := ?_) rfl (by kernel_rfl) (by kernel_rfl) (by kernel_rfl) (fun _ _ _ h => h) (Or.inl ⟨by rfl, ?_⟩) (by assumption) ?_
            rotate_left
            · intro w hSw; (try dsimp only at hSw); go_simp; try with_reducible rfl
            try simp only [put_y]
            try simp only [Act.put]
            try simp only [put_z]
            refine wpAnyH_ready (rs := [34]) (by kernel_rfl) (by simp) ?_
            refine AllReadyH.cons rfl (fun K hK => ?_) AllReadyH.nil
            go_simp
            refine (C1.out w4.drew (Upd.refl.drew (S := Non))).mono ?_
            rintro e w1 ⟨rfl, hu1'⟩
            have hu1 : Upd Non w4 w1 := Upd.refl.drew.then_non hu1'
            go_wp2_with fail
            refine hK.out _ _ ?_ (fun hHeld => ?_)
            · exact ⟨cell_upd c0' hu1 (fun f => f), cell_upd c2' hu1 (fun f => f), cell_upd hci hu1 (fun f => f), cell_upd hcj hu1 (fun f => f), cell_upd n1 hu1 (fun f => f), cell_upd n2 hu1 (fun f => f), cell_upd n3 hu1 (fun f => f), cell_upd m1 hu1 (fun f => f), cell_upd m2 hu1 (fun f => f), cell_upd m3 hu1 (fun f => f)⟩
            clear hK K
            try simp only [put_y]
            try simp only [Act.put]
            try simp only [put_z]
            refine wpAnyH_take (i := 35) (v := ?_) rfl (by kernel_rfl) (by kernel_rfl) (by kernel_rfl) (fun _ _ _ h => h) (Or.inl ⟨by rfl, ?_⟩) (by assumption) ?_
            rotate_left
            · intro w hSw; (try dsimp only at hSw); go_simp; try with_reducible rfl
            try simp only [put_y]
            try simp only [Act.put]
            try simp only [put_z]
            refine wpAnyH_done (by kernel_rfl) ?_ _
            have hu3 : Upd Non w w1 := hu.then_non hu1
            clear s0 s2 si sj a1 a2 a3 b1 b2 b3 C1 n1 n2 n3 m1 m2 m3 t1
            cases bb with
            | true =>
              have hcg := Lib.hid (HC.out.1 (of_decide_eq_true Hbb.out))
              have HR := Lib.hid (HY.out hcg.out)
              obtain ⟨cs, hto, htc, htr⟩ := H.out.t
              have HTR := Lib.hid htr
              have HTC := Lib.hid htc
              have hgt : ¬ At a.t rb := fun q => by have e1 := HTR.out rb q; rw [H.out.me] at e1; cases e1
              have hgf : ¬ At a.f rb := fun q => by have e1 := H.out.f.2 rb q; rw [H.out.me] at e1; cases e1
              have HTF : Hid (∀ k, At a.f k → ¬ At a.t k) := fun k q q2 => by have e1 := H.out.f.2 k q; rw [HTR.out k q2] at e1; cases e1
              have hfo : Own w 3 1 a.f n a.fc (icells (clsN n G.c)) := by have := H.out.f.1; rw [clL_cls, Hn.out] at this; simpa [clsN] using this
              have hbk : Blk w rb 61 #[.slice a.l n a.lc, .slice a.t G.T.length a.tc, .slice a.f n a.fc, .slice a.s n a.sc] := by have := H.out.blk; unfold RA.cells at this; rw [Hn.out] at this; exact this
              have hbk1 := hbk.upd hu3 (fun f => f)
              have ho1 := hto.upd hu3 (fun _ _ f => f)
              have hf1 := hfo.upd hu3 (fun _ _ f => f)
              have c11 := hbk1.cell 1
              have HW := Lib.hid hu3.size
              clear htr htc hto hbk hfo hci hcj hki hkj HN HC HY
              go_wp2_with (at_builtin; refine wpList_app rfl rfl T_steps rfl (ho1.alloc _) rfl (Sl.new _ _ _) rfl (by simp [Value.oneCell']) (by simp only [maxLen]; omega) (by omega) ?_; intro A3 c3 w5 ho5 hu5 hat5; have b5 := (hbk1.alloc _).upd hu5 hgt; have f51 := b5.frozen 1; have c51 := b5.cell 1; have hf5 := (hf1.alloc _).upd hu5 HTF.out; have uC := updCell w5 rb 1 (.slice A3 (G.T.length + 1) c3); have b5' := b5.set_ 1 (.slice A3 (G.T.length + 1) c3); have hf5' := hf5.upd uC (fun k hk e => by rw [e] at hk; exact hgf hk); have ho5' := ho5.upd uC (fun k hk e => by rw [e] at hk; exact (hat5 _ hk).elim (fun q => hgt q) (fun q => by have := hbk1.lt; simp at q; omega)); obtain ⟨wC, HC⟩ := nm (w5.setCell ⟨rb, 1, none⟩ (.slice A3 (G.T.length + 1) c3)); have eC := HC.out; rw [HC.out] at hf5' b5' uC ho5'; have c52 := b5'.cell 2)
              refine (joinO_c wC a.f n a.fc G.c i j (by omega) (by omega) (by omega) hf5').mono ?_
              rintro e w6 ⟨rfl, hf6, hu6⟩
              have hT6 := ho5'.upd hu6 (fun k hk q => (hat5 k hk).elim (HTF.out k q) (fun e => by have := H.out.f.1.lt q; have := HW.out; simp at e; omega))
              have hU6 : Upd (fun k => k = rb ∨ At a.t k ∨ At a.f k) w w6 := ((((hu3.alloc _).mono (T := fun k => k = rb ∨ At a.t k ∨ At a.f k) (fun _ _ f => f.elim)).trans hu5 (fun _ _ q => .inr (.inl q))).trans uC (fun _ _ q => .inl q)).trans hu6 (fun _ _ q => .inr (.inr q))
              have hb6 := b5'.upd hu6 hgf
              have HA5 : Hid (∀ k, At A3 k → At a.t k ∨ (w.heap.size ≤ k ∧ ¬ (fun _ => False) k)) := fun k hk => by
                rcases hat5 k hk with q | q
                · exact .inl q
                · refine .inr ⟨?_, fun f => f⟩
                  have := HW.out
                  simp at q
                  omega
              clear hat5 b5 b5' ho5 ho5' hf5 hf5' uC hu5
              go_wp2_with fail
              go_ret
              rw [← Hn.out] at hb6 hf6
              exact .inr ⟨i, j, HR.out, rfl, RM.merge (s := cgStep i j) (c' := joinc G.c i j) (V := fun _ => False) H.out HTC.out HTR.out hb6 hT6 hf6 hU6 HA5.out (fun _ f => f.elim) .nil .nil (by simp [cgStep]) (by simp [cgStep])⟩
            | false =>
              have HI2 := Lib.hid (HN.out (fun q => of_decide_eq_false Hbb.out (HC.out.2 q)))
              go_wp2_with fail
              go_roundg (j - (i + 1))
              case measure => rw [Hgi.out]; omega
              case rel => exact ⟨i + 1, rfl, by omega, by go_num, HI2, hu.then_non hu1⟩
        · obtain rfl : j = i := by omega
          have HS2 := Lib.hid (HS.out.succ HI.out)
          go_wp2_with fail
          go_roundg (n - (j + 1))
          case measure => rw [Hg.out]; omega
          case rel => exact ⟨j + 1, rfl, by omega, by go_num, HS2, hu⟩
    · obtain rfl : n = j := by omega
      go_wp2_with fail
      go_ret
      exact .inl ⟨by rw [← Hn.out] at HS; exact HS.out.none_, rfl, RNext.same H.out hu⟩
end Go.Proofs.Ytigambcefdeaoaa

namespace Go.Proofs.Ytigambcefdeaoaa
open Go.RowKit

set_option maxHeartbeats 1000000 in
theorem rRebuild_c (w : World) (ρ : Nat → Role) (gb : Nat) (a : RA) (G : EG) (h : RM w ρ gb a G) (hg : GWf G) (hT : G.T.length ≤ 900000000) :
    Calls Try.prog 29 #[gp gb] w fun e w' => ∃ n G', Reb G n G' ∧ n ≤ 2000 ∧ e = .returned (.int .i64 (n : Int)) ∧ RNext w ρ gb w' G' := by
  have hsm := hg.wf.small
  have hrl := roots_le G.L.length G.c
  have H := Lib.hid h
  have HG := Lib.hid hg
  unfold gp
  clear h hg
  go_enter Try.func29, Try.ntmps29
  go_wp2_with fail
  go_loopg [3] (roots G.L.length G.c) (fun g v wr => ∃ (m : Nat) (Gm : EG), Hid (g = roots Gm.L.length Gm.c) ∧ v = .int .i64 m ∧ m + roots Gm.L.length Gm.c ≤ 2000 ∧ Hid (GWf Gm) ∧ Gm.T.length ≤ 900000000 + m ∧ Hid (RNext w ρ gb wr Gm) ∧ Hid (∀ n G', Reb Gm n G' → Reb G (m + n) G'))
  case atStart => exact ⟨0, G, rfl, rfl, by omega, HG, by omega, RNext.same H.out Upd.refl, fun n G' hr => by rw [Nat.zero_add]; exact hr⟩
  case round =>
    obtain ⟨m, Gm, Hg, rfl, hm, HGm, hTm, HN, HR⟩ := hrel
    obtain ⟨ρ', a', hM, hu, he⟩ := HN.out
    have C1 := Lib.hid (rRebStep_c wr ρ' gb a' Gm hM HGm.out (by omega))
    unfold gp at C1
    cases hr : reb Gm.c Gm.L with
    | none =>
      have hd := HR.out 0 Gm (.done hr)
      have C2 : Hid (Calls Try.prog 57 #[.pointer (some ⟨gb, 0, none⟩)] wr fun e w' => e = .returned (.bool false) ∧ RNext wr ρ' gb w' Gm) := C1.out.mono fun e w' q => by
        rcases q with ⟨_, q1, q2⟩ | ⟨i, j, q0, _⟩
        · exact ⟨q1, q2⟩
        · rw [hr] at q0; cases q0
      clear hr hM C1
      go_wp2_with fail
      refine C2.out.mono ?_
      rintro e w1 ⟨rfl, hN⟩
      go_wp2_with fail
      go_ret
      exact ⟨m, Gm, hd, by omega, rfl, RNext.trans hu he hN⟩
    | some p =>
      obtain ⟨i, j⟩ := p
      obtain ⟨h1, h2⟩ := HGm.out.rebMerge hr
      have HR2 : Hid (∀ n G', Reb (Gm.merge (cgStep i j)) n G' → Reb G (m + 1 + n) G') := fun n G' hq => by
        have := HR.out (n + 1) G' (.step hr hq)
        rwa [show m + (n + 1) = m + 1 + n by omega] at this
      have hTl : (Gm.merge (cgStep i j)).T.length = Gm.T.length + 1 := by simp [EG.merge]
      have hrt : roots (Gm.merge (cgStep i j)).L.length (Gm.merge (cgStep i j)).c = roots Gm.L.length (joinc Gm.c i j) := by simp [EG.merge, cgStep]
      have C2 : Hid (Calls Try.prog 57 #[.pointer (some ⟨gb, 0, none⟩)] wr fun e w' => e = .returned (.bool true) ∧ RNext wr ρ' gb w' (Gm.merge (cgStep i j))) := C1.out.mono fun e w' q => by
        rcases q with ⟨q0, _⟩ | ⟨i2, j2, q0, q1, q2⟩
        · rw [hr] at q0; cases q0
        · rw [hr] at q0; injection q0 with q0; injection q0 with e1 e2; subst e1; subst e2; exact ⟨q1, q2⟩
      clear hr hM C1
      go_wp2_with fail
      refine C2.out.mono ?_
      rintro e w1 ⟨rfl, hN⟩
      go_wp2_with fail
      go_roundg (roots (Gm.merge (cgStep i j)).L.length (Gm.merge (cgStep i j)).c)
      case measure => rw [Hg.out, hrt]; omega
      case rel => exact ⟨m + 1, _, rfl, by go_num, by rw [hrt]; omega, h1, by rw [hTl]; omega, RNext.trans hu he hN, HR2⟩
end Go.Proofs.Ytigambcefdeaoaa
