/-
  What Class and Distinct of an e-graph do.
-/
import Derived.Test.YtigambcefdeaoaaGCls
namespace Go.Proofs.Ytigambcefdeaoaa
open Go.RowKit

/-- The members of the class of i. -/
def classF (G : EG) (i : Int) : List Int := if 0 ≤ i ∧ i < G.L.length then memL G.L.length G.c (G.c i.toNat) else []
theorem memL_len (n : Nat) (c : Nat → Nat) (i : Nat) : (memL n c i).length ≤ n := by
  unfold memL
  rw [List.length_map]
  exact Nat.le_trans (List.length_filter_le _ _) (by simp)
theorem classF_len (G : EG) (i : Int) : (classF G i).length ≤ G.L.length := by
  unfold classF
  split
  · exact memL_len _ _ _
  · simp

theorem GMm.at_ {w : World} {ρ : Nat → Role} {A : Option Addr} {cp n : Nat} {c : Nat → Nat} (h : GMm w ρ A cp n c) {i : Nat} (hi : i < n) : ∃ b MA mc, A = some ⟨b, 0, none⟩ ∧ b < w.heap.size ∧ w.cell? ⟨b, i, none⟩ = some (.slice MA (memL n c i).length mc) ∧ Ints w (fun k => ρ k = .ins) MA (memL n c i) ∧ (memL n c i).length ≤ mc := by
  obtain ⟨ms, h1, h2, h3, h4⟩ := h
  obtain ⟨b, e⟩ := h2.some_ (by omega)
  rw [e] at h2
  have hi' : i < (scells n c ms).length := by simp [scells]; omega
  have hc := h2.cell_ hi'
  refine ⟨b, _, _, e, World.block_lt_of_cell? _ _ hc, ?_, (h4 i hi).1, (h4 i hi).2⟩
  rw [hc]
  simp [scells]

set_option maxRecDepth 100000 in
set_option maxHeartbeats 1000000 in
theorem gClass_c (w : World) (ρ : Nat → Role) (gb : Nat) (a : GA) (G : EG) (h : GM w ρ gb a G) (hnm : Named G.L.length G.c) (hn : G.L.length ≤ 2000) (i : Int) :
    Calls Try.prog 19 #[gp gb, .int .i64 i] w fun e w' => ∃ A c, e = .returned (.slice A (classF G i).length c) ∧ Own w' 3 1 A (classF G i).length c (icells (classF G i)) ∧ (∀ k, At A k → w.heap.size ≤ k) ∧ Upd Non w w' := by
  have C1 := Lib.hid (gExists_c w ρ gb a G h i)
  unfold gp at *
  by_cases hi : 0 ≤ i ∧ i < G.L.length
  · have HF : Hid (classF G i = memL G.L.length G.c (G.c i.toNat)) := by show _ = _; unfold classF; rw [if_pos hi]
    obtain ⟨k, rfl⟩ := Int.eq_ofNat_of_zero_le hi.1
    have hk : k < G.L.length := by omega
    simp only [hi] at C1
    obtain ⟨b, e, hb, hc⟩ := h.fat hk
    have c2 := h.c2
    rw [e] at c2
    rw [Int.toNat_natCast] at HF
    have hxn := hnm.lt hk
    obtain ⟨b3, MA, mc, e3, hb3, hc3, hiv, hmc⟩ := h.m.at_ hxn
    have c3 := h.c3
    rw [e3] at c3
    have hml := memL_len G.L.length G.c (G.c k)
    generalize G.c k = x at *
    rw [HF.out]
    clear e e3 HF hi h
    generalize memL G.L.length G.c x = M at *
    go_enter Try.func19, Try.ntmps19
    go_wp2_with fail
    refine C1.out.mono ?_
    rintro e w' ⟨rfl, rfl⟩
    go_wp2_with fail
    have q2 : w.drew.cell? ⟨gb, 2, none⟩ = some (.slice (some ⟨b, 0, none⟩) G.L.length a.fc) := c2
    have q3 : w.drew.cell? ⟨gb, 3, none⟩ = some (.slice (some ⟨b3, 0, none⟩) G.L.length a.mc) := c3
    have q4 : w.drew.cell? ⟨b, k, none⟩ = some (.int .i64 (x : Int)) := hc
    have q5 : w.drew.cell? ⟨b3, x, none⟩ = some (.slice MA M.length mc) := hc3
    have i0 : (0 : Int) ≤ (k : Int) := by omega
    have i1 : (k : Int) < (G.L.length : Int) := by omega
    have i2 : (0 : Int) ≤ (x : Int) := by omega
    have i3 : (x : Int) < (G.L.length : Int) := by omega
    refine wp_region_held_drew (S := fun w' => w'.cell? ⟨gb, 2, none⟩ = some (.slice (some ⟨b, 0, none⟩) G.L.length a.fc) ∧ w'.cell? ⟨gb, 3, none⟩ = some (.slice (some ⟨b3, 0, none⟩) G.L.length a.mc) ∧ w'.cell? ⟨b, k, none⟩ = some (.int .i64 (x : Int)) ∧ w'.cell? ⟨b3, x, none⟩ = some (.slice MA M.length mc)) (by kernel_rfl) ⟨q2, q3, q4, q5⟩ (fun hHeld => ?_)
    refine wpAnyH_take (i := 0) (v := ?_) rfl (by kernel_rfl) (by kernel_rfl) (by kernel_rfl) (fun _ _ _ h => h) (Or.inl ⟨by rfl, ?_⟩) (by assumption) ?_
    rotate_left
    · intro w hSw; (try dsimp only at hSw); go_simp; try with_reducible rfl
    try simp only [put_y]
    try simp only [Act.put]
    try simp only [put_z]
    refine wpAnyH_take (i := 1) (v := ?_) rfl (by kernel_rfl) (by kernel_rfl) (by kernel_rfl) (fun _ _ _ h => h) (Or.inl ⟨by rfl, ?_⟩) (by assumption) ?_
    rotate_left
    · intro w hSw; (try dsimp only at hSw); go_simp; try with_reducible rfl
    try simp only [put_y]
    try simp only [Act.put]
    try simp only [put_z]
    refine wpAnyH_take (i := 2) (v := ?_) rfl (by kernel_rfl) (by kernel_rfl) (by kernel_rfl) (fun _ _ _ h => h) (Or.inl ⟨by rfl, ?_⟩) (by assumption) ?_
    rotate_left
    · intro w hSw; (try dsimp only at hSw); go_simp; try with_reducible rfl
    try simp only [put_y]
    try simp only [Act.put]
    try simp only [put_z]
    refine wpAnyH_take (i := 3) (v := ?_) rfl (by kernel_rfl) (by kernel_rfl) (by kernel_rfl) (fun _ _ _ h => h) (Or.inl ⟨by rfl, ?_⟩) (by assumption) ?_
    rotate_left
    · intro w hSw; (try dsimp only at hSw); go_simp; try with_reducible rfl
    try simp only [put_y]
    try simp only [Act.put]
    try simp only [put_z]
    refine wpAnyH_take (i := 4) (v := ?_) rfl (by kernel_rfl) (by kernel_rfl) (by kernel_rfl) (fun _ _ _ h => h) (Or.inl ⟨by rfl, ?_⟩) (by assumption) ?_
    rotate_left
    · intro w hSw; (try dsimp only at hSw); go_simp; try with_reducible rfl
    try simp only [put_y]
    try simp only [Act.put]
    try simp only [put_z]
    refine wpAnyH_take (i := 5) (v := ?_) rfl (by kernel_rfl) (by kernel_rfl) (by kernel_rfl) (fun _ _ _ h => h) (Or.inl ⟨by rfl, ?_⟩) (by assumption) ?_
    rotate_left
    · intro w hSw; (try dsimp only at hSw); go_simp; try with_reducible rfl
    try simp only [put_y]
    try simp only [Act.put]
    try simp only [put_z]
    refine wpAnyH_take (i := 6) (v := ?_) rfl (by kernel_rfl) (by kernel_rfl) (by kernel_rfl) (fun _ _ _ h => h) (Or.inl ⟨by rfl, ?_⟩) (by assumption) ?_
    rotate_left
    · intro w hSw; (try dsimp only at hSw); go_simp; try with_reducible rfl
    try simp only [put_y]
    try simp only [Act.put]
    try simp only [put_z]
    refine wpAnyH_take (i := 7) (v := ?_) rfl (by kernel_rfl) (by kernel_rfl) (by kernel_rfl) (fun _ _ _ h => h) (Or.inl ⟨by rfl, ?_⟩) (by assumption) ?_
    rotate_left
    · intro w hSw; (try dsimp only at hSw); go_simp; try with_reducible rfl
    try simp only [put_y]
    try simp only [Act.put]
    try simp only [put_z]
    refine wpAnyH_take (i := 8) (v := ?_) rfl (by kernel_rfl) (by kernel_rfl) (by kernel_rfl) (fun _ _ _ h => h) (Or.inl ⟨by rfl, ?_⟩) (by assumption) ?_
    rotate_left
    · intro w hSw; (try dsimp only at hSw); go_simp; try with_reducible rfl
    try simp only [put_y]
    try simp only [Act.put]
    try simp only [put_z]
    refine wpAnyH_take (i := 9) (v := ?_) rfl (by kernel_rfl) (by kernel_rfl) (by kernel_rfl) (fun _ _ _ h => h) (Or.inl ⟨by rfl, ?_⟩) (by assumption) ?_
    rotate_left
    · intro w hSw; (try dsimp only at hSw); go_simp; try with_reducible rfl
    try simp only [put_y]
    try simp only [Act.put]
    try simp only [put_z]
    refine wpAnyH_take (i := 10) (v := ?_) rfl (by kernel_rfl) (by kernel_rfl) (by kernel_rfl) (fun _ _ _ h => h) (Or.inl ⟨by rfl, ?_⟩) (by assumption) ?_
    rotate_left
    · intro w hSw; (try dsimp only at hSw); go_simp; try with_reducible rfl
    try simp only [put_y]
    try simp only [Act.put]
    try simp only [put_z]
    refine wpAnyH_take (i := 11) (v := ?_) rfl (by kernel_rfl) (by kernel_rfl) (by kernel_rfl) (fun _ _ _ h => h) (Or.inl ⟨by rfl, ?_⟩) (by assumption) ?_
    rotate_left
    · intro w hSw; (try dsimp only at hSw); go_simp; try with_reducible rfl
    try simp only [put_y]
    try simp only [Act.put]
    try simp only [put_z]
    refine wpAnyH_take (i := 12) (v := ?_) rfl (by kernel_rfl) (by kernel_rfl) (by kernel_rfl) (fun _ _ _ h => h) (Or.inl ⟨by rfl, ?_⟩) (by assumption) ?_
    rotate_left
    · intro w hSw; (try dsimp only at hSw); go_simp; try with_reducible rfl
    try simp only [put_y]
    try simp only [Act.put]
    try simp only [put_z]
    refine wpAnyH_ready (rs := [13]) (by kernel_rfl) (by simp) ?_
    refine AllReadyH.cons rfl (fun K hK => ?_) AllReadyH.nil
    refine step_app (A := none) (n := 0) (c := 0) (by rfl) (by rfl) T_ints' (by rfl) Own.none_ (by rfl) (hiv.upd (Upd.refl.drew (S := Non)) (fun _ _ _ f => f)) (by simp) (icells_one M) (by simp only [maxLen]; omega) (by omega) ?_
    intro A2 c2' w2 ho2 hu2' hat2
    have hu2 : Upd Non w w2 := Upd.refl.drew.trans hu2' (fun _ _ h => At.none_ h)
    have hN : ∀ k, At A2 k → w.heap.size ≤ k := fun k hk => by
      rcases hat2 k hk with h | h
      · exact (At.none_ h).elim
      · simp at h; omega
    rw [Nat.zero_add, List.nil_append] at ho2
    refine hK.out _ _ ?_ (fun hHeld => ?_)
    · exact ⟨cell_upd c2 hu2 (fun f => f), cell_upd c3 hu2 (fun f => f), cell_upd hc hu2 (fun f => f), cell_upd hc3 hu2 (fun f => f)⟩
    clear hK K
    try simp only [put_y]
    try simp only [Act.put]
    try simp only [put_z]
    refine wpAnyH_ready (rs := [14]) (by kernel_rfl) (by simp) ?_
    refine AllReadyH.cons rfl (fun K hK => ?_) AllReadyH.nil
    go_simp
    refine hK.out _ _ ?_ (fun hHeld => ?_)
    · exact ⟨cell_upd c2 hu2 (fun f => f), cell_upd c3 hu2 (fun f => f), cell_upd hc hu2 (fun f => f), cell_upd hc3 hu2 (fun f => f)⟩
    clear hK K
    try simp only [put_y]
    try simp only [Act.put]
    try simp only [put_z]
    refine wpAnyH_done (by kernel_rfl) ?_ _
    go_wp2_with fail
    go_ret
    exact ⟨A2, c2', by simp, ho2, hN, hu2⟩
  · have HF : Hid (classF G i = []) := by show _ = _; unfold classF; rw [if_neg hi]
    simp only [hi, decide_false] at C1
    rw [HF.out]
    clear hi h
    go_enter Try.func19, Try.ntmps19
    go_wp2_with fail
    refine C1.out.mono ?_
    rintro e w' ⟨rfl, rfl⟩
    go_wp2_with fail
    go_ret
    exact ⟨none, 0, rfl, Own.none_, fun k hk => (At.none_ hk).elim, Upd.refl⟩

theorem classF_mem {G : EG} {i x : Int} (h : x ∈ classF G i) : 0 ≤ x ∧ x.toNat < G.L.length := by
  unfold classF at h
  split at h
  · unfold memL at h
    obtain ⟨k, hk, rfl⟩ := List.mem_map.1 h
    have := List.mem_range.1 (List.mem_filter.1 hk).1
    exact ⟨by omega, by simpa using this⟩
  · simp at h

def distF (G : EG) (i : Int) : List Int := distTo G.c G.L (classF G i) (classF G i).length

set_option maxRecDepth 100000 in
set_option maxHeartbeats 2000000 in
theorem gDistinct_c (w : World) (ρ : Nat → Role) (gb : Nat) (a : GA) (G : EG) (h : GM w ρ gb a G) (hg : GWf G) (i : Int) :
    Calls Try.prog 20 #[gp gb, .int .i64 i] w fun e w' => ∃ A c, e = .returned (.slice A (distF G i).length c) ∧ Own w' 3 1 A (distF G i).length c (icells (distF G i)) ∧ (∀ k, At A k → w.heap.size ≤ k) ∧ Upd Non w w' := by
  have hn := hg.wf.small
  have C1 := Lib.hid (gClass_c (w.alloc (.map #[] 0)) ρ gb a G (h.non (Upd.refl.alloc _)) hg.wf.named hn i)
  have hmm := @run_makeMap Try.prog
  have hlen := classF_len G i
  have HME := Lib.hid (fun x => @classF_mem G i x)
  have HD : Hid (distF G i = distTo G.c G.L (classF G i) (classF G i).length) := rfl
  rw [HD.out]
  clear HD
  generalize classF G i = l at *
  have hsm0 := SMap.new w
  have c0 := h.c0
  have H := Lib.hid h
  have HG := Lib.hid hg
  have hlv := h.lv.mono (G := (· < w.heap.size)) (fun k hk _ => hk)
  have hgb := h.blk.lt
  clear h hg
  unfold gp at C1 ⊢
  generalize a.l = lA at *
  generalize a.lc = lc at *
  go_enter Try.func20, Try.ntmps20
  go_wp2_with fail
  refine C1.out.mono ?_
  rintro e w1 ⟨A, c, rfl, ho, HAl, hu1⟩
  have HAl := Lib.hid HAl
  have hs1 := hsm0.upd hu1 (fun f => f)
  have hU1 : Upd Non w w1 := (Upd.refl.alloc (.map #[] 0) (S := Non)).then_non hu1
  have hiv := ho.ints
  have hwl := hs1.lt
  obtain ⟨n, Hn⟩ := nm l.length
  rw [Hn.out] at hlen
  have e0 := Hn.out
  have HSV : Hid ((fun _ => none) = seenV G.c G.L (l.take 0)) := by show _ = _; funext s; simp [seenV, seenB]
  rw [HSV.out] at hs1
  clear C1 HSV ho hsm0
  rw [Hn.out]
  go_wp2_with fail
  go_loopg [5, 8, 9, 15] n (fun g v _ _ iv wr => ∃ (j m c3 : Nat) (A3 : Option Addr), Hid (g = n - j) ∧ j ≤ n ∧ iv = .int .i64 j ∧ v = .slice A3 m c3 ∧ Hid (m = (distTo G.c G.L l j).length) ∧ m ≤ j ∧ Own wr 3 1 A3 m c3 (icells (distTo G.c G.L l j)) ∧ Hid (∀ q, At A3 q → w1.heap.size ≤ q) ∧ SMap wr w.heap.size (seenV G.c G.L (l.take j)) ∧ Upd (fun q => q = w.heap.size) w1 wr)
  case atStart => exact ⟨0, 0, 0, none, rfl, by omega, rfl, rfl, rfl, by omega, Own.none_, fun j hj => (At.none_ hj).elim, hs1, Upd.refl⟩
  case round =>
    obtain ⟨j, m, c3, A3, Hg, hj, rfl, rfl, Hm, hm, ho3, HA3, hsm, hu⟩ := hrel
    have hsz := hU1.size
    have hAl : ∀ k, At A k → w.heap.size + 1 ≤ k := fun k hk => by have := HAl.out k hk; simpa using this
    have hUw : Upd (fun q => q = w.heap.size) w wr := (hU1.mono (fun _ _ f => f.elim)).trans hu (fun _ _ e => e)
    have hM := H.out.far hUw (fun k hk => Classical.byContradiction fun hne => by have := H.out.bnd k hne; omega)
    by_cases hlt : j < n
    · have hlt' : j < l.length := by omega
      obtain ⟨k0, k1⟩ := HME.out _ (List.getElem_mem hlt')
      obtain ⟨ab, ao, rfl, _, hab, hcl⟩ := (hiv.upd hu (fun k _ hk e => by have := hAl k hk; omega)).at_ hlt'
      have HD := Lib.hid (show distTo G.c G.L l (j + 1) = bif seenB G.c G.L (l.take j) (ck G.c (G.L.getD (l.getD j 0).toNat nd0)) then distTo G.c G.L l j else distTo G.c G.L l j ++ [l.getD j 0] from rfl)
      have HT : Hid (l.take (j + 1) = l.take j ++ [l[j]]) := List.take_succ_eq_append_getElem hlt'
      rw [getD_of hlt'] at HD
      generalize l[j] = x at *
      obtain ⟨q, rfl⟩ := Int.eq_ofNat_of_zero_le k0
      have k1 : q < G.L.length := k1
      have HD : Hid (distTo G.c G.L l (j + 1) = bif seenB G.c G.L (l.take j) (ck G.c (G.L.getD q nd0)) then distTo G.c G.L l j else distTo G.c G.L l j ++ [(q : Int)]) := HD
      have HSN : Hid ((fun x => if x = ck G.c (G.L.getD q nd0) then some (Value.bool true) else seenV G.c G.L (l.take j) x) = seenV G.c G.L (l.take (j + 1))) := by show _ = _; rw [HT.out]; exact seenV_set G.c G.L (l.take j) (q : Int)
      have HSO : Hid (seenB G.c G.L (l.take j) (ck G.c (G.L.getD q nd0)) = true → seenV G.c G.L (l.take (j + 1)) = seenV G.c G.L (l.take j)) := by show _ → _ = _; rw [HT.out]; exact @seenV_same G.c G.L (l.take j) (q : Int)
      obtain ⟨lb, lo, rfl, hFl, hlb, h1, h2, KA, kc, h3, hkc, hki⟩ := (hlv.upd hUw (fun k _ hk e => by have : k < w.heap.size := hk; omega)).at_ k1
      have hok := okKids_mono (HG.out.wf.kids q k1) (show q ≤ G.L.length by omega)
      have hkl := HG.out.klen k1
      have HCK : Hid (ck G.c (G.L.getD q nd0) = keyE G.L[q].op G.L[q].imm (ckids G.c G.L[q].kids)) := by show _ = _; rw [getD_of k1]; rfl
      obtain ⟨op, e1⟩ : ∃ op, G.L[q].op = op := ⟨_, rfl⟩
      obtain ⟨imm, e2⟩ : ∃ imm, G.L[q].imm = imm := ⟨_, rfl⟩
      obtain ⟨kids, e3⟩ : ∃ kids, G.L[q].kids = kids := ⟨_, rfl⟩
      rw [e1] at h1 HCK
      rw [e2] at h2 HCK
      rw [e3] at h3 hkc hki HCK hok hkl
      clear e1 e2 e3
      have C1 := Lib.hid (canonKey_c wr ρ gb a G hM op imm kids KA kc (· < w.heap.size) hki (by omega) hok)
      rw [← HCK.out] at C1
      unfold gp at C1
      obtain ⟨s, Hs⟩ := nm (ck G.c (G.L.getD q nd0))
      rw [Hs.out] at C1 HD HSN HSO
      have c0' := cell_upd c0 hUw (by omega)
      have hq3 : (q : Int) < (G.L.length : Int) := by omega
      go_wp2_with fail
      refine C1.out.mono ?_
      rintro e w2 ⟨rfl, hu2⟩
      have hsm2 := hsm.upd hu2 (fun f => f)
      have hlook := hsm2.look1 Try.underlying88 Try.underlying9 (zeroBool _) s
      have hU2 : Upd (fun q => q = w.heap.size) w1 w2 := hu.then_non hu2
      have ho32 := ho3.upd hu2 (fun _ _ f => f)
      clear C1 h1 h2 h3 HCK
      cases hb : seenB G.c G.L (l.take j) s with
      | true =>
        have hv : seenV G.c G.L (l.take j) s = some (.bool true) := by simp [seenV, hb]
        rw [hv] at hlook
        simp only [Option.getD_some] at hlook
        have HD2 : Hid (distTo G.c G.L l (j + 1) = distTo G.c G.L l j) := HD.out.trans (by rw [hb]; rfl)
        rw [← HSO.out hb] at hsm2
        clear hv hb
        go_wp2_with fail
        go_roundg (n - (j + 1))
        case measure => rw [Hg.out]; omega
        case rel => exact ⟨j + 1, m, c3, A3, rfl, by omega, by go_num, rfl, by show _ = _; rw [HD2.out, Hm.out], by omega, by rw [HD2.out]; exact ho32, HA3, hsm2, hU2⟩
      | false =>
        have hv : seenV G.c G.L (l.take j) s = none := by simp [seenV, hb]
        rw [hv] at hlook
        simp only [Option.getD_none] at hlook
        have HD2 : Hid (distTo G.c G.L l (j + 1) = distTo G.c G.L l j ++ [(q : Int)]) := HD.out.trans (by rw [hb]; rfl)
        obtain ⟨w3, hst, hsm3, hu3⟩ := hsm2.store Try.underlying88 Try.underlying9 s (.bool true)
        rw [HSN.out] at hsm3
        have hU3 : Upd (fun q => q = w.heap.size) w1 w3 := hU2.trans hu3 (fun i hi e => e)
        have hNA : ∀ k, At A3 k → k ≠ w.heap.size := fun k hk e => by have := HA3.out k hk; omega
        have ho33 := ho32.upd hu3 (fun k hk e => hNA k hk e)
        clear hv hb
        go_wp2_with (at_builtin; refine wpList_app rfl rfl T_ints' rfl (ho33.alloc _) rfl (Sl.new _ _ _) rfl (by simp [Value.oneCell']) (by simp only [maxLen]; omega) (by omega) ?_; intro A4 c4 w4 ho4 hu4 hat4)
        have hA4 : ∀ k, At A4 k → w1.heap.size ≤ k := fun k hk => by
          rcases hat4 k hk with h | h
          · exact HA3.out k h
          · have := hU3.size; simp at h; omega
        go_roundg (n - (j + 1))
        case measure => rw [Hg.out]; omega
        case rel =>
          refine ⟨j + 1, m + 1, c4, A4, rfl, by omega, by go_num, rfl, by show _ = _; rw [HD2.out, Hm.out]; simp, by omega, by rw [HD2.out, icells_snoc]; exact ho4, hA4, (hsm3.upd (Upd.refl.alloc _ (S := Non)) (fun f => f)).upd hu4 (fun h => hNA _ h rfl), (hU3.alloc _).trans hu4 (fun i hi h => by have := HA3.out i h; omega)⟩
    · obtain rfl : n = j := by omega
      go_wp2_with fail
      go_ret
      exact ⟨A3, c3, by rw [← Hn.out] at Hm; rw [← Hm.out]; rfl, by rw [← Hn.out] at Hm ho3; rw [← Hm.out]; exact ho3, fun k hk => by have := HA3.out k hk; omega, hUw.mono (fun i hi e => by omega)⟩
end Go.Proofs.Ytigambcefdeaoaa
