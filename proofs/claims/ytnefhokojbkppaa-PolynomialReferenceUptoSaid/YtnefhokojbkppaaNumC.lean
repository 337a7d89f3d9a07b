/-
  What keep.numbered and keep.Numbered do: they renumber the variables of a pattern as numF tells.
-/
import Derived.Test.YtnefhokojbkppaaKPt
import Derived.Test.YtnefhokojbkppaaPatC
import Derived.Test.YtnefhokojbkppaaPEq
import Derived.Laws.ResultCell
import Derived.Laws.Rows
namespace Go.Proofs.Ytnefhokojbkppaa
open Go.RowKit

theorem results_cell_row_tmps {P : Program} {fn : Func} {p u v : Tmp} {ty : TypeId} (h : fn.results = #[.cell p ty, .tmp u, .tmp v]) (tmps : Array Value) (w : World) (g : Nat) (t : TypeId) (cs : Array Value) (fr : Nat × Nat) (d : TypeDesc)
    (hp : tmps.getD p undef = .pointer (some ⟨g, 0, none⟩)) (hg : w.heap[g]? = some (.cells cs t fr))
    (hu : P.underlying ty = some d) (hd : (match d with | .struct _ | .array _ _ => true | _ => false) = true) (hi : (P.info? ty).map (·.size) = some cs.size) :
    (results fn tmps).run P w = .ok (.tuple #[.agg cs, tmps.getD u undef, tmps.getD v undef]) w := by
  have hp' : tmps[p]?.getD undef = .pointer (some ⟨g, 0, none⟩) := by simpa using hp
  simp [results, h, hp', asAddr, run_loadVar_row w g t ty cs fr d hg hu hd hi, Result.andThen]
theorem PtK.swap {w : World} {F : Nat → Prop} {p : Pt} {KA : Option Addr} {kc : Nat} (h : PtK w F p KA kc) (a b c d : Int) : PtK w F (.mk a b c d p.kids) KA kc := by
  rw [PtK.iff] at h ⊢
  exact h
/-- Two slices of integers of the call's own. -/
def NS (w : World) (A : Option Addr) (c : Nat) (vs : List Int) (B : Option Addr) (d : Nat) (ms : List Int) : Prop :=
  Own w 3 1 A vs.length c (icells vs) ∧ Own w 3 1 B ms.length d (icells ms) ∧ ∀ k, At A k → ¬ At B k
theorem NS.upd {w w' : World} {S : Nat → Prop} {A B : Option Addr} {c d : Nat} {vs ms : List Int} (h : NS w A c vs B d ms) (u : Upd S w w') (hA : ∀ k, At A k → ¬ S k) (hB : ∀ k, At B k → ¬ S k) : NS w' A c vs B d ms := ⟨h.1.upd u hA, h.2.1.upd u hB, h.2.2⟩
theorem findG_drop {vs : List Int} {k : Nat} (h : k < vs.length) (x : Int) : findG (vs.drop k) x k = if vs[k] = x then some k else findG (vs.drop (k + 1)) x (k + 1) := by
  rw [List.drop_eq_getElem_cons h]; rfl
theorem lastG_drop {vs : List Int} {k : Nat} (h : k < vs.length) (x a : Int) : lastG (vs.drop k) x k a = lastG (vs.drop (k + 1)) x (k + 1) (if vs[k] = x then (k : Int) else a) := by
  rw [List.drop_eq_getElem_cons h]; rfl
theorem Ints.cellA {w : World} {F : Nat → Prop} {A : Option Addr} {xs : List Int} (h : Ints w F A xs) {j : Nat} (hj : j < xs.length) : ∃ b o, A = some ⟨b, o, none⟩ ∧ F b ∧ b < w.heap.size ∧ w.cell? ⟨b, o + j, none⟩ = some (.int .i64 xs[j]) := by
  obtain ⟨b, o, h1, h2, h3, h4⟩ := Sl.at_ (k := j) h (by simpa using hj)
  exact ⟨b, o, h1, h2, h3, by simpa using h4⟩

def NumPost (w : World) (F : Nat → Prop) (A B : Option Addr) (r : Pt × List Int × List Int) (e : Ending) (w' : World) : Prop :=
  ∃ (KA' : Option Addr) (kc' : Nat) (A' : Option Addr) (c' : Nat) (B' : Option Addr) (d' : Nat),
    e = .returned (.tuple #[pv r.1 KA' kc', .slice A' r.2.1.length c', .slice B' r.2.2.length d']) ∧
    PtK w' (fun k => (F k ∨ w.heap.size ≤ k) ∧ ¬ At A' k ∧ ¬ At B' k) r.1 KA' kc' ∧ NS w' A' c' r.2.1 B' d' r.2.2 ∧
    (∀ k, At A' k → At A k ∨ w.heap.size ≤ k) ∧ (∀ k, At B' k → At B k ∨ w.heap.size ≤ k) ∧ Upd (fun k => At A k ∨ At B k) w w'

set_option maxRecDepth 100000 in
set_option maxHeartbeats 4000000 in
theorem numbered_c (p : Pt) : ∀ (w : World) (F : Nat → Prop) (KA : Option Addr) (kc : Nat) (A : Option Addr) (c : Nat) (B : Option Addr) (d : Nat) (vs ms : List Int), PtK w F p KA kc → (∀ k, F k → ¬ At A k ∧ ¬ At B k) → NS w A c vs B d ms → vs.length + p.size ≤ 1000000 → ms.length + p.size ≤ 1000000 →
    Calls Try.prog 57 #[pv p KA kc, .slice A vs.length c, .slice B ms.length d] w fun e w' => NumPost w F A B (numF p vs ms) e w' := by
  induction p using Pt.ind with
  | h p ih =>
    intro w F KA kc A c B d vs ms hp0 hF0 hns hsv hsm
    have HI := Lib.hid ih
    have hp1 := PtK.mono (G := fun k => F k ∧ k < w.heap.size) (fun k hk h => ⟨h, hk⟩) p KA kc hp0
    obtain ⟨W, HW⟩ := nm (w.alloc (.cells #[.int .i64 p.v, .int .i64 p.op, .int .i64 p.imm, .int .i64 p.iv, .slice KA p.kids.length kc] 24))
    have hU : Upd Non w W := by rw [← HW.out]; exact Upd.refl.alloc _
    have hb : Blk W w.heap.size 24 #[.int .i64 p.v, .int .i64 p.op, .int .i64 p.imm, .int .i64 p.iv, .slice KA p.kids.length kc] := by rw [← HW.out]; exact Blk.new _ _ _
    have hsW : W.heap.size = w.heap.size + 1 := by rw [← HW.out]; simp
    obtain ⟨W2, HW2⟩ := nm (W.alloc (.cells #[.int .i64 0, .int .i64 0, .int .i64 0, .int .i64 0, .slice none 0 0] 24))
    have hU2 : Upd Non W W2 := by rw [← HW2.out]; exact Upd.refl.alloc _
    have hb2 : Blk W2 (w.heap.size + 1) 24 #[.int .i64 0, .int .i64 0, .int .i64 0, .int .i64 0, .slice none 0 0] := by rw [← HW2.out, ← hsW]; exact Blk.new _ _ _
    have hsW2 : W2.heap.size = w.heap.size + 2 := by rw [← HW2.out]; simp [hsW]
    have hb := hb.upd hU2 (fun f => f)
    have hU0 := hU.then_non hU2
    have e0 := HW.out
    have e2 := HW2.out
    have hpW := PtK.upd hU0 (fun _ _ _ f => f) p KA kc hp1
    have hnsW := hns.upd hU0 (fun _ _ f => f) (fun _ _ f => f)
    have hAlt : ∀ k, At A k → k < w.heap.size := fun k h => hns.1.lt h
    have hBlt : ∀ k, At B k → k < w.heap.size := fun k h => hns.2.1.lt h
    have HS := Lib.hid (Pt.size_eq p)
    have hkl : p.kids.length ≤ 1000000 := by have h1 := Pt.len_le p.kids; have h2 := HS.out; omega
    have HF0 := Lib.hid hF0
    have HAL := Lib.hid hAlt
    have HBL := Lib.hid hBlt
    have HNV := Lib.hid (@numF_var p)
    have HNO := Lib.hid (@numF_op p)
    have hps : 1 ≤ p.size := by have := HS.out; omega
    obtain ⟨R, HR⟩ := nm (numF p vs ms)
    rw [HR.out]
    have c0 := hb.cell 0
    have c3 := hb.cell 3
    unfold pv
    obtain ⟨v, Hv⟩ := nm p.v
    obtain ⟨op, Hop⟩ := nm p.op
    obtain ⟨imm, Himm⟩ := nm p.imm
    obtain ⟨iv, Hiv⟩ := nm p.iv
    obtain ⟨k, Hk⟩ := nm p.kids.length
    rw [Hv.out] at c0 e0 hb HNV HNO
    rw [Hop.out] at e0 hb HNV HNO
    rw [Himm.out] at e0 hb HNV HNO
    rw [Hiv.out] at c3 e0 hb HNV HNO
    rw [Hk.out] at e0 hb hkl
    rw [Hv.out, Hop.out, Himm.out, Hiv.out, Hk.out]
    obtain ⟨nv, Hnv⟩ := nm vs.length
    obtain ⟨nm_, Hnm⟩ := nm ms.length
    rw [Hnv.out] at hsv ⊢
    rw [Hnm.out] at hsm ⊢
    clear ih hp0 hF0 hns hp1 hAlt hBlt hU hU2
    by_cases hv : 0 < v
    · have hR := HNV.out hv vs ms
      rw [HR.out] at hR
      have hiV := hnsW.1.ints
      have HIV := Lib.hid hiV
      have HNS := Lib.hid hnsW
      have HR2 := Lib.hid hR
      have tv : decide (0 < v) = true := decide_eq_true hv
      have HV0 := Lib.hid hv
      clear HNV HNO hnsW hR hiV hv c3
      go_enter Try.func57, Try.ntmps57
      go_wp2_with fail
      go_loopg [9] nv (fun g i wr => ∃ j : Nat, Hid (g = nv - j) ∧ j ≤ nv ∧ i = .int .i64 j ∧ Hid (findG vs v 0 = findG (vs.drop j) v j) ∧ Upd Non W2 wr)
      case atStart => exact ⟨0, rfl, by omega, rfl, rfl, Upd.refl⟩
      case round =>
        obtain ⟨j, Hg, hj, rfl, HFD, hu⟩ := hrel
        have hbr := hb.upd hu (fun f => f)
        have hbR := hb2.upd hu (fun f => f)
        have d0 := hbr.cell 0
        have g0 := hbr.frozen 0
        by_cases hlt : j < nv
        · have hjl : j < vs.length := by rw [Hnv.out]; exact hlt
          obtain ⟨ba, oa, hA, _, _, z⟩ := (HIV.out.upd hu (fun _ _ _ f => f)).cellA hjl
          have HFJ : Hid (findG vs v 0 = if vs[j] = v then some j else findG (vs.drop (j + 1)) v (j + 1)) := by show _ = _; rw [HFD.out]; exact findG_drop hjl v
          generalize vs[j] = y at *
          have t1 : decide (j < nv) = true := decide_eq_true hlt
          have hj0 : (0 : Int) ≤ (j : Int) := by omega
          have hjn : (j : Int) < (nv : Int) := by omega
          subst hA
          obtain ⟨wD, HwD⟩ := nm wr.drew
          have uD : Upd Non wr wD := by rw [← HwD.out]; exact Upd.refl.drew
          have dD0 := cell_upd d0 uD (fun f => f)
          have zD := cell_upd z uD (fun f => f)
          have HFL := Lib.hid hlt
          clear hlt
          go_wp2_with fail
          refine wp_region_held_drew (S := fun w' => w'.cell? ⟨w.heap.size, 0, none⟩ = some (.int .i64 v) ∧ w'.cell? ⟨ba, oa + j, none⟩ = some (.int .i64 y)) (by kernel_rfl) (by rw [HwD.out]; exact ⟨dD0, zD⟩) (fun hHeld => ?_)
          rw [HwD.out] at hHeld ⊢
          by_cases hy : y = v
          · subst hy
            refine wpAnyH_take (i := 0) (v := ?_) rfl (by kernel_rfl) (by kernel_rfl) (by kernel_rfl) (fun _ _ _ h => h) (Or.inl ⟨by rfl, ?_⟩) (by assumption) ?_
            rotate_left
            · intro w hSw; (try dsimp only at hSw); go_simp; try with_reducible rfl
            try simp only [put_y]
            try simp only [Act.put]
            try simp only [put_z]
            refine wpAnyH_take (i := 1) (v := ?_) rfl (by kernel_rfl) (by kernel_rfl) (by kernel_rfl) (fun _ _ _ h => h) (Or.inl ⟨by rfl, ?_⟩) (by assumption) ?_
            rotate_left
            · intro w hSw; (try dsimp only at hSw); go_simp; try with_reducible rfl
            try simp only [put_y]
            try simp only [Act.put]
            try simp only [put_z]
            refine wpAnyH_take (i := 2) (v := ?_) rfl (by kernel_rfl) (by kernel_rfl) (by kernel_rfl) (fun _ _ _ h => h) (Or.inl ⟨by rfl, ?_⟩) (by assumption) ?_
            rotate_left
            · intro w hSw; (try dsimp only at hSw); go_simp; try with_reducible rfl
            try simp only [put_y]
            try simp only [Act.put]
            try simp only [put_z]
            refine wpAnyH_take (i := 3) (v := ?_) rfl (by kernel_rfl) (by kernel_rfl) (by kernel_rfl) (fun _ _ _ h => h) (Or.inl ⟨by rfl, ?_⟩) (by assumption) ?_
            rotate_left
            · intro w hSw; (try dsimp only at hSw); go_simp; try with_reducible rfl
            try simp only [put_y]
            try simp only [Act.put]
            try simp only [put_z]
            refine wpAnyH_take (i := 4) (v := ?_) rfl (by kernel_rfl) (by kernel_rfl) (by kernel_rfl) (fun _ _ _ h => h) (Or.inl ⟨by rfl, ?_⟩) (by assumption) ?_
            rotate_left
            · intro w hSw; (try dsimp only at hSw); go_simp; try with_reducible rfl
            try simp only [put_y]
            try simp only [Act.put]
            try simp only [put_z]
            refine wpAnyH_take (i := 5) (v := ?_) rfl (by kernel_rfl) (by kernel_rfl) (by kernel_rfl) (fun _ _ _ h => h) (Or.inl ⟨by rfl, ?_⟩) (by assumption) ?_
            rotate_left
            · intro w hSw; (try dsimp only at hSw); go_simp; try with_reducible rfl
            try simp only [put_y]
            try simp only [Act.put]
            try simp only [put_z]
            refine wpAnyH_take (i := 6) (v := ?_) rfl (by kernel_rfl) (by kernel_rfl) (by kernel_rfl) (fun _ _ _ h => h) (Or.inl ⟨by rfl, ?_⟩) (by assumption) ?_
            rotate_left
            · intro w hSw; (try dsimp only at hSw); go_simp; try with_reducible rfl
            try simp only [put_y]
            try simp only [Act.put]
            try simp only [put_z]
            refine wpAnyH_done (by kernel_rfl) ?_ _
            have hbD := hbr.upd uD (fun f => f)
            have hbRD := hbR.upd uD (fun f => f)
            have hE : findG vs y 0 = some j := by rw [HFJ.out, if_pos rfl]
            have g0 := hbD.frozen 0
            obtain ⟨X1, HX1⟩ := nm (wD.setCell ⟨w.heap.size, 0, none⟩ (.int .i64 ((j : Int) + 1)))
            have x1 := HX1.out
            have hx1 : Blk X1 w.heap.size 24 #[.int .i64 ((j : Int) + 1), .int .i64 op, .int .i64 imm, .int .i64 iv, .slice KA k kc] := by rw [← x1]; simpa using hbD.set_ 0 (.int .i64 ((j : Int) + 1))
            have v1 : Upd (· = w.heap.size) wD X1 := by rw [← x1]; exact updCell _ _ _ _
            have hxR := hbRD.upd v1 (by omega)
            have k0 := hx1.cell 0
            have k1 := hx1.cell 1
            have k2 := hx1.cell 2
            have k3 := hx1.cell 3
            have k4 := hx1.cell 4
            have r0 := hxR.cell 0
            have r1 := hxR.cell 1
            have r2 := hxR.cell 2
            have r3 := hxR.cell 3
            have r4 := hxR.cell 4
            have rf := hxR.frozen
            have HE := Lib.hid hE
            have UX : Upd (· = w.heap.size) W2 X1 := ((hu.then_non uD).mono (fun _ _ f => f.elim)).trans v1 (fun _ _ h => h)
            have HXR := Lib.hid hxR
            clear hE z zD
            go_wp2_with fail
            rw [set5_eq]
            refine bodyPost_ret (results_cell_row_tmps rfl _ _ (w.heap.size + 1) 24 _ (0, 0) _ rfl (set5_blk HXR.out _ _ _ _ _) Try.underlying24 rfl (by kernel_rfl)) rfl ?_
            have uS := set5_upd X1 (w.heap.size + 1) (.int .i64 ((j : Int) + 1)) (.int .i64 op) (.int .i64 imm) (.int .i64 iv) (.slice KA k kc)
            have UF : Upd (fun i => i = w.heap.size ∨ i = w.heap.size + 1) W2 (set5 X1 (w.heap.size + 1) (.int .i64 ((j : Int) + 1)) (.int .i64 op) (.int .i64 imm) (.int .i64 iv) (.slice KA k kc)) := (UX.mono (fun _ _ h => .inl h)).trans uS (fun _ _ h => .inr h)
            have hRe : R = (.mk ((j : Int) + 1) op imm iv p.kids, vs, ms) := by rw [HR2.out]; unfold numV; rw [HE.out]
            rw [hRe]
            have hkk := Hk.out
            refine ⟨KA, kc, _, c, B, d, ?_, ?_, HNS.out.upd UF (fun k h e => by have := HAL.out k h; omega) (fun k h e => by have := HBL.out k h; omega), fun k h => .inl h, fun k h => .inl h, (hU0.mono (fun _ _ f => f.elim)).trans UF (fun i hi h => by omega)⟩
            · show _ = Ending.returned (.tuple #[.agg #[_, _, _, _, .slice KA p.kids.length kc], .slice _ vs.length c, .slice B ms.length d])
              rw [Hnv.out, Hnm.out, Hk.out]; rfl
            · exact PtK.swap (PtK.mono (fun i _ h => ⟨.inl h.1, HF0.out i h.1⟩) _ _ _ (PtK.upd UF (fun i hi h e => by have := h.2; omega) p KA kc hpW)) _ _ _ _
          · have ty : (y == v) = false := by simpa using hy
            have HFN : Hid (findG vs v 0 = findG (vs.drop (j + 1)) v (j + 1)) := by show _ = _; rw [HFJ.out, if_neg hy]
            clear hy
            refine wpAnyH_take (i := 0) (v := ?_) rfl (by kernel_rfl) (by kernel_rfl) (by kernel_rfl) (fun _ _ _ h => h) (Or.inl ⟨by rfl, ?_⟩) (by assumption) ?_
            rotate_left
            · intro w hSw; (try dsimp only at hSw); go_simp; try with_reducible rfl
            try simp only [put_y]
            try simp only [Act.put]
            try simp only [put_z]
            refine wpAnyH_take (i := 1) (v := ?_) rfl (by kernel_rfl) (by kernel_rfl) (by kernel_rfl) (fun _ _ _ h => h) (Or.inl ⟨by rfl, ?_⟩) (by assumption) ?_
            rotate_left
            · intro w hSw; (try dsimp only at hSw); go_simp; try with_reducible rfl
            try simp only [put_y]
            try simp only [Act.put]
            try simp only [put_z]
            refine wpAnyH_take (i := 2) (v := ?_) rfl (by kernel_rfl) (by kernel_rfl) (by kernel_rfl) (fun _ _ _ h => h) (Or.inl ⟨by rfl, ?_⟩) (by assumption) ?_
            rotate_left
            · intro w hSw; (try dsimp only at hSw); go_simp; try with_reducible rfl
            try simp only [put_y]
            try simp only [Act.put]
            try simp only [put_z]
            refine wpAnyH_take (i := 3) (v := ?_) rfl (by kernel_rfl) (by kernel_rfl) (by kernel_rfl) (fun _ _ _ h => h) (Or.inl ⟨by rfl, ?_⟩) (by assumption) ?_
            rotate_left
            · intro w hSw; (try dsimp only at hSw); go_simp; try with_reducible rfl
            try simp only [put_y]
            try simp only [Act.put]
            try simp only [put_z]
            refine wpAnyH_take (i := 4) (v := ?_) rfl (by kernel_rfl) (by kernel_rfl) (by kernel_rfl) (fun _ _ _ h => h) (Or.inl ⟨by rfl, ?_⟩) (by assumption) ?_
            rotate_left
            · intro w hSw; (try dsimp only at hSw); go_simp; try with_reducible rfl
            try simp only [put_y]
            try simp only [Act.put]
            try simp only [put_z]
            refine wpAnyH_take (i := 5) (v := ?_) rfl (by kernel_rfl) (by kernel_rfl) (by kernel_rfl) (fun _ _ _ h => h) (Or.inl ⟨by rfl, ?_⟩) (by assumption) ?_
            rotate_left
            · intro w hSw; (try dsimp only at hSw); go_simp; try with_reducible rfl
            try simp only [put_y]
            try simp only [Act.put]
            try simp only [put_z]
            refine wpAnyH_take (i := 6) (v := ?_) rfl (by kernel_rfl) (by kernel_rfl) (by kernel_rfl) (fun _ _ _ h => h) (Or.inl ⟨by rfl, ?_⟩) (by assumption) ?_
            rotate_left
            · intro w hSw; (try dsimp only at hSw); go_simp; try with_reducible rfl
            try simp only [put_y]
            try simp only [Act.put]
            try simp only [put_z]
            refine wpAnyH_done (by kernel_rfl) ?_ _
            have hltj := HFL.out
            go_wp2_with fail
            go_roundg (nv - (j + 1))
            case measure => rw [Hg.out]; omega
            case rel => exact ⟨j + 1, rfl, by omega, by go_num, HFN, hu.then_non uD⟩
        · obtain rfl : nv = j := by omega
          have hE : findG vs v 0 = none := by rw [HFD.out, List.drop_of_length_le (by rw [Hnv.out]; exact Nat.le_refl _)]; rfl
          have HE := Lib.hid hE
          have hoR := HNS.out.1.upd hu (fun _ _ f => f)
          rw [Hnv.out] at hoR
          have hltr := hb2.lt
          have hsu := hu.size
          clear hE
          go_wp2_with (at_builtin; refine wpList_app rfl rfl T_ints' rfl (hoR.alloc _) rfl (Sl.new _ _ _) rfl (by simp [Value.oneCell']) (by simp only [maxLen]; omega) (by omega) ?_; intro A3 c3 w3 ho3 hu3 hat3; have hb3 := (hbr.alloc (.cells #[.int .i64 v] 3)).upd hu3 (fun h => by have := HAL.out _ h; omega); have hbR3 := (hbR.alloc (.cells #[.int .i64 v] 3)).upd hu3 (fun h => by have := HAL.out _ h; omega); have d03 := hb3.cell 0; have g03 := hb3.frozen 0; obtain ⟨X1, HX1⟩ := nm (w3.setCell ⟨w.heap.size, 0, none⟩ (.int .i64 ((nv : Int) + 1))); have x1 := HX1.out; have hx1 : Blk X1 w.heap.size 24 #[.int .i64 ((nv : Int) + 1), .int .i64 op, .int .i64 imm, .int .i64 iv, .slice KA k kc] := (by rw [← x1]; simpa using hb3.set_ 0 (.int .i64 ((nv : Int) + 1))); have v1 : Upd (· = w.heap.size) w3 X1 := (by rw [← x1]; exact updCell _ _ _ _); have hxR := hbR3.upd v1 (by omega); have k0 := hx1.cell 0; have k1 := hx1.cell 1; have k2 := hx1.cell 2; have k3 := hx1.cell 3; have k4 := hx1.cell 4; have r0 := hxR.cell 0; have r1 := hxR.cell 1; have r2 := hxR.cell 2; have r3 := hxR.cell 3; have r4 := hxR.cell 4; have rf := hxR.frozen)
          rw [set5_eq]
          refine bodyPost_ret (results_cell_row_tmps rfl _ _ (w.heap.size + 1) 24 _ (0, 0) _ rfl (set5_blk hxR _ _ _ _ _) Try.underlying24 rfl (by kernel_rfl)) rfl ?_
          have uS := set5_upd X1 (w.heap.size + 1) (.int .i64 ((nv : Int) + 1)) (.int .i64 op) (.int .i64 imm) (.int .i64 iv) (.slice KA k kc)
          have hat4 : ∀ i, At A3 i → At A i ∨ i = wr.heap.size + 1 := fun i h => by simpa using hat3 i h
          have hal : Upd Non wr (wr.alloc (.cells #[.int .i64 v] 3)) := Upd.refl.alloc _
          have u3X : Upd (fun i => i = w.heap.size ∨ i = w.heap.size + 1) w3 (set5 X1 (w.heap.size + 1) (.int .i64 ((nv : Int) + 1)) (.int .i64 op) (.int .i64 imm) (.int .i64 iv) (.slice KA k kc)) := (v1.mono (fun _ _ h => .inl h)).trans uS (fun _ _ h => .inr h)
          have UF : Upd (fun i => At A i ∨ i = w.heap.size ∨ i = w.heap.size + 1) W2 (set5 X1 (w.heap.size + 1) (.int .i64 ((nv : Int) + 1)) (.int .i64 op) (.int .i64 imm) (.int .i64 iv) (.slice KA k kc)) :=
            ((((hu.then_non hal).mono (fun _ _ f => f.elim)).trans hu3 (fun _ _ h => .inl h))).trans u3X (fun _ _ h => .inr h)
          have hRe : R = (.mk ((nv : Int) + 1) op imm iv p.kids, vs ++ [v], ms) := by rw [HR2.out]; unfold numV; rw [HE.out, Hnv.out]
          rw [hRe]
          have hoF := ho3.upd u3X (fun i h e => by rcases hat4 i h with h | h; have := HAL.out i h; omega; omega)
          rw [← icells_snoc] at hoF
          have hdis := HNS.out.2.2
          refine ⟨KA, kc, A3, c3, B, d, ?_, ?_, ⟨by simpa [Hnv.out] using hoF, HNS.out.2.1.upd UF (fun i h e => by
            have h1 := HBL.out i h
            rcases e with e | e
            · exact hdis i e h
            · omega), fun i h hB => ?_⟩, fun i h => ?_, fun i h => .inl h, (hU0.mono (fun _ _ f => f.elim)).trans UF (fun i hi h => by rcases h with h | h; exact .inl h; omega)⟩
          · show _ = Ending.returned (.tuple #[.agg #[_, _, _, _, .slice KA p.kids.length kc], .slice _ (vs ++ [v]).length c3, .slice B ms.length d])
            rw [List.length_append, Hnv.out, Hnm.out, Hk.out]; rfl
          · refine PtK.swap (PtK.mono (G := fun i => (F i ∨ w.heap.size ≤ i) ∧ ¬ At A3 i ∧ ¬ At B i) (fun i _ h => ⟨.inl h.1, fun h3 => ?_, (HF0.out i h.1).2⟩) _ _ _ (PtK.upd UF (fun i hi h e => by
              have h1 := HF0.out i h.1
              have h2 := h.2
              rcases e with e | e
              · exact h1.1 e
              · omega) p KA kc hpW)) _ _ _ _
            rcases hat4 i h3 with h3 | h3
            · exact (HF0.out i h.1).1 h3
            · have := h.2; omega
          · rcases hat4 i h with h | h
            · exact hdis i h hB
            · have := HBL.out i hB; omega
          · rcases hat4 i h with h | h
            · exact .inl h
            · exact .inr (by omega)
    · have hR := HNO.out hv vs ms
      rw [HR.out] at hR
      have HIM := Lib.hid hnsW.2.1.ints
      have HNS := Lib.hid hnsW
      have tv : decide (0 < v) = false := decide_eq_false hv
      have HV0 := Lib.hid hv
      obtain ⟨iv1, Hiv1⟩ := nm (numI ms iv).1
      obtain ⟨msI, HmsI⟩ := nm (numI ms iv).2
      rw [Hiv1.out, HmsI.out] at hR
      have HNI : Hid ((iv1, msI) = numI ms iv) := by show _ = _; rw [← Hiv1.out, ← HmsI.out]
      unfold numI at HNI
      have hIl := numI_len ms iv
      rw [HmsI.out, Hnm.out] at hIl
      have HR2 := Lib.hid hR
      clear HNV HNO hnsW hR hv
      go_enter Try.func57, Try.ntmps57
      go_upto_region 11 with fail
      go_cut [50] (fun t wx => t = .bool (decide (0 < iv)) ∧ W2 = wx)
      case first =>
        go_wp2_with fail
        go_meet
        case rel => exact ⟨rfl, rfl⟩
      case rest =>
      obtain ⟨rfl, rfl⟩ := hcut
      obtain ⟨tb, Htb⟩ := nm (decide (0 < iv))
      rw [Htb.out]
      go_upto_if 50 with fail
      go_cut [2, 10, 11] (fun s2 _ _ wx => ∃ (B1 : Option Addr) (d1 : Nat), s2 = .slice B1 msI.length d1 ∧ Hid (NS wx A c vs B1 d1 msI) ∧ Hid (∀ i, At B1 i → At B i ∨ w.heap.size + 2 ≤ i) ∧ Blk wx w.heap.size 24 #[.int .i64 v, .int .i64 op, .int .i64 imm, .int .i64 iv1, .slice KA k kc] ∧ Upd (fun i => At B i ∨ i = w.heap.size) W2 wx)
      case first =>
        by_cases hiv : 0 < iv
        · have tiv : tb = true := by rw [← Htb.out]; exact decide_eq_true hiv
          subst tiv
          have hni := HNI.out
          rw [if_pos hiv] at hni
          have HNI2 := Lib.hid hni
          clear hni hiv
          go_wp2_with fail
          go_loopg [10, 11] nm_ (fun g s i wr => ∃ (j : Nat) (a : Int), Hid (g = nm_ - j) ∧ j ≤ nm_ ∧ i = .int .i64 j ∧ s = .int .i64 a ∧ -1 ≤ a ∧ a < nm_ ∧ Hid (lastG ms iv 0 (-1) = lastG (ms.drop j) iv j a) ∧ Upd Non W2 wr)
          case atStart => exact ⟨0, -1, rfl, by omega, rfl, rfl, by omega, by omega, rfl, Upd.refl⟩
          case round =>
            obtain ⟨j, a, Hg, hj, rfl, rfl, ha1, ha2, HFD, hu⟩ := hrel
            have hbr := hb.upd hu (fun f => f)
            have d3 := hbr.cell 3
            have g3 := hbr.frozen 3
            by_cases hlt : j < nm_
            · have hjl : j < ms.length := by rw [Hnm.out]; exact hlt
              obtain ⟨ba, oa, hB, _, _, z⟩ := (HIM.out.upd hu (fun _ _ _ f => f)).cellA hjl
              have HFJ : Hid (lastG ms iv 0 (-1) = lastG (ms.drop (j + 1)) iv (j + 1) (if ms[j] = iv then (j : Int) else a)) := by show _ = _; rw [HFD.out]; exact lastG_drop hjl iv a
              generalize ms[j] = y at *
              have t1 : decide (j < nm_) = true := decide_eq_true hlt
              have hj0 : (0 : Int) ≤ (j : Int) := by omega
              have hjn : (j : Int) < (nm_ : Int) := by omega
              subst hB
              obtain ⟨wD, HwD⟩ := nm wr.drew
              have uD : Upd Non wr wD := by rw [← HwD.out]; exact Upd.refl.drew
              have dD0 := cell_upd d3 uD (fun f => f)
              have zD := cell_upd z uD (fun f => f)
              have HFL := Lib.hid hlt
              have HA1 := Lib.hid ha1
              clear hlt ha1
              go_wp2_with fail
              refine wp_region_held_drew (S := fun w' => w'.cell? ⟨w.heap.size, 3, none⟩ = some (.int .i64 iv) ∧ w'.cell? ⟨ba, oa + j, none⟩ = some (.int .i64 y)) (by kernel_rfl) (by rw [HwD.out]; exact ⟨dD0, zD⟩) (fun hHeld => ?_)
              rw [HwD.out] at hHeld ⊢
              by_cases hy : y = iv
              · subst hy
                have HFK : Hid (lastG ms y 0 (-1) = lastG (ms.drop (j + 1)) y (j + 1) (j : Int)) := by show _ = _; rw [HFJ.out, if_pos rfl]
                refine wpAnyH_take (i := 0) (v := ?_) rfl (by kernel_rfl) (by kernel_rfl) (by kernel_rfl) (fun _ _ _ h => h) (Or.inl ⟨by rfl, ?_⟩) (by assumption) ?_
                rotate_left
                · intro w hSw; (try dsimp only at hSw); go_simp; try with_reducible rfl
                try simp only [put_y]
                try simp only [Act.put]
                try simp only [put_z]
                refine wpAnyH_take (i := 1) (v := ?_) rfl (by kernel_rfl) (by kernel_rfl) (by kernel_rfl) (fun _ _ _ h => h) (Or.inl ⟨by rfl, ?_⟩) (by assumption) ?_
                rotate_left
                · intro w hSw; (try dsimp only at hSw); go_simp; try with_reducible rfl
                try simp only [put_y]
                try simp only [Act.put]
                try simp only [put_z]
                refine wpAnyH_take (i := 2) (v := ?_) rfl (by kernel_rfl) (by kernel_rfl) (by kernel_rfl) (fun _ _ _ h => h) (Or.inl ⟨by rfl, ?_⟩) (by assumption) ?_
                rotate_left
                · intro w hSw; (try dsimp only at hSw); go_simp; try with_reducible rfl
                try simp only [put_y]
                try simp only [Act.put]
                try simp only [put_z]
                refine wpAnyH_take (i := 3) (v := ?_) rfl (by kernel_rfl) (by kernel_rfl) (by kernel_rfl) (fun _ _ _ h => h) (Or.inl ⟨by rfl, ?_⟩) (by assumption) ?_
                rotate_left
                · intro w hSw; (try dsimp only at hSw); go_simp; try with_reducible rfl
                try simp only [put_y]
                try simp only [Act.put]
                try simp only [put_z]
                refine wpAnyH_take (i := 4) (v := ?_) rfl (by kernel_rfl) (by kernel_rfl) (by kernel_rfl) (fun _ _ _ h => h) (Or.inl ⟨by rfl, ?_⟩) (by assumption) ?_
                rotate_left
                · intro w hSw; (try dsimp only at hSw); go_simp; try with_reducible rfl
                try simp only [put_y]
                try simp only [Act.put]
                try simp only [put_z]
                refine wpAnyH_take (i := 5) (v := ?_) rfl (by kernel_rfl) (by kernel_rfl) (by kernel_rfl) (fun _ _ _ h => h) (Or.inl ⟨by rfl, ?_⟩) (by assumption) ?_
                rotate_left
                · intro w hSw; (try dsimp only at hSw); go_simp; try with_reducible rfl
                try simp only [put_y]
                try simp only [Act.put]
                try simp only [put_z]
                refine wpAnyH_take (i := 6) (v := ?_) rfl (by kernel_rfl) (by kernel_rfl) (by kernel_rfl) (fun _ _ _ h => h) (Or.inl ⟨by rfl, ?_⟩) (by assumption) ?_
                rotate_left
                · intro w hSw; (try dsimp only at hSw); go_simp; try with_reducible rfl
                try simp only [put_y]
                try simp only [Act.put]
                try simp only [put_z]
                refine wpAnyH_done (by kernel_rfl) ?_ _
                have hltj := HFL.out
                go_wp2_with fail
                go_roundg (nm_ - (j + 1))
                case measure => rw [Hg.out]; omega
                case rel => exact ⟨j + 1, j, rfl, by omega, by go_num, rfl, by omega, hjn, HFK, hu.then_non uD⟩
              · have ty : (y == iv) = false := by simpa using hy
                have HFK : Hid (lastG ms iv 0 (-1) = lastG (ms.drop (j + 1)) iv (j + 1) a) := by show _ = _; rw [HFJ.out, if_neg hy]
                clear hy
                refine wpAnyH_take (i := 0) (v := ?_) rfl (by kernel_rfl) (by kernel_rfl) (by kernel_rfl) (fun _ _ _ h => h) (Or.inl ⟨by rfl, ?_⟩) (by assumption) ?_
                rotate_left
                · intro w hSw; (try dsimp only at hSw); go_simp; try with_reducible rfl
                try simp only [put_y]
                try simp only [Act.put]
                try simp only [put_z]
                refine wpAnyH_take (i := 1) (v := ?_) rfl (by kernel_rfl) (by kernel_rfl) (by kernel_rfl) (fun _ _ _ h => h) (Or.inl ⟨by rfl, ?_⟩) (by assumption) ?_
                rotate_left
                · intro w hSw; (try dsimp only at hSw); go_simp; try with_reducible rfl
                try simp only [put_y]
                try simp only [Act.put]
                try simp only [put_z]
                refine wpAnyH_take (i := 2) (v := ?_) rfl (by kernel_rfl) (by kernel_rfl) (by kernel_rfl) (fun _ _ _ h => h) (Or.inl ⟨by rfl, ?_⟩) (by assumption) ?_
                rotate_left
                · intro w hSw; (try dsimp only at hSw); go_simp; try with_reducible rfl
                try simp only [put_y]
                try simp only [Act.put]
                try simp only [put_z]
                refine wpAnyH_take (i := 3) (v := ?_) rfl (by kernel_rfl) (by kernel_rfl) (by kernel_rfl) (fun _ _ _ h => h) (Or.inl ⟨by rfl, ?_⟩) (by assumption) ?_
                rotate_left
                · intro w hSw; (try dsimp only at hSw); go_simp; try with_reducible rfl
                try simp only [put_y]
                try simp only [Act.put]
                try simp only [put_z]
                refine wpAnyH_take (i := 4) (v := ?_) rfl (by kernel_rfl) (by kernel_rfl) (by kernel_rfl) (fun _ _ _ h => h) (Or.inl ⟨by rfl, ?_⟩) (by assumption) ?_
                rotate_left
                · intro w hSw; (try dsimp only at hSw); go_simp; try with_reducible rfl
                try simp only [put_y]
                try simp only [Act.put]
                try simp only [put_z]
                refine wpAnyH_take (i := 5) (v := ?_) rfl (by kernel_rfl) (by kernel_rfl) (by kernel_rfl) (fun _ _ _ h => h) (Or.inl ⟨by rfl, ?_⟩) (by assumption) ?_
                rotate_left
                · intro w hSw; (try dsimp only at hSw); go_simp; try with_reducible rfl
                try simp only [put_y]
                try simp only [Act.put]
                try simp only [put_z]
                refine wpAnyH_take (i := 6) (v := ?_) rfl (by kernel_rfl) (by kernel_rfl) (by kernel_rfl) (fun _ _ _ h => h) (Or.inl ⟨by rfl, ?_⟩) (by assumption) ?_
                rotate_left
                · intro w hSw; (try dsimp only at hSw); go_simp; try with_reducible rfl
                try simp only [put_y]
                try simp only [Act.put]
                try simp only [put_z]
                refine wpAnyH_done (by kernel_rfl) ?_ _
                have hltj := HFL.out
                go_wp2_with fail
                go_roundg (nm_ - (j + 1))
                case measure => rw [Hg.out]; omega
                case rel => exact ⟨j + 1, a, rfl, by omega, by go_num, rfl, HA1.out, ha2, HFK, hu.then_non uD⟩
            · obtain rfl : nm_ = j := by omega
              have HE : Hid (lastG ms iv 0 (-1) = a) := by show _ = _; rw [HFD.out, List.drop_of_length_le (by rw [Hnm.out]; exact Nat.le_refl _)]; rfl
              have t1 : decide (nm_ < nm_) = false := by simp
              rw [HE.out] at HNI2
              have hbm := HNS.out.upd hu (fun _ _ f => f) (fun _ _ f => f)
              have hsu := hu.size
              by_cases h0 : a < 0
              · have t2 : decide (a < 0) = true := decide_eq_true h0
                have hni := HNI2.out
                rw [if_pos h0, Hnm.out] at hni
                have HI1 : Hid (iv1 = (nm_ : Int) + 1) := congrArg Prod.fst hni
                have HI2 : Hid (msI = ms ++ [iv]) := congrArg Prod.snd hni
                have hoR := hbm.2.1
                rw [Hnm.out] at hoR
                have HBM := Lib.hid hbm
                clear hni h0 hbm
                go_wp2_with (at_builtin; refine wpList_app rfl rfl T_ints' rfl (hoR.alloc _) rfl (Sl.new _ _ _) rfl (by simp [Value.oneCell']) (by simp only [maxLen]; omega) (by omega) ?_; intro B3 d3' w3 ho3 hu3 hat3; have hb3 := (hbr.alloc (.cells #[.int .i64 iv] 3)).upd hu3 (fun h => by have := HBL.out _ h; omega); have d03 := hb3.cell 3; have g03 := hb3.frozen 3)
                go_meet
                case rel =>
                  have v1 : Upd (· = w.heap.size) w3 (w3.setCell ⟨w.heap.size, 3, none⟩ (.int .i64 ((nm_ : Int) + 1))) := updCell _ _ _ _
                  have hx1 : Blk (w3.setCell ⟨w.heap.size, 3, none⟩ (.int .i64 ((nm_ : Int) + 1))) w.heap.size 24 #[.int .i64 v, .int .i64 op, .int .i64 imm, .int .i64 iv1, .slice KA k kc] := by
                    rw [HI1.out]; simpa using hb3.set_ 3 (.int .i64 ((nm_ : Int) + 1))
                  have hat4 : ∀ i, At B3 i → At B i ∨ i = wr.heap.size + 1 := fun i h => by simpa using hat3 i h
                  have hal : Upd Non wr (wr.alloc (.cells #[.int .i64 iv] 3)) := Upd.refl.alloc _
                  have hdis := HNS.out.2.2
                  refine ⟨B3, d3', by rw [HI2.out, List.length_append, Hnm.out]; rfl, ⟨((HBM.out.1.alloc _).upd hu3 hdis).upd v1 (fun i h e => by have := HAL.out i h; omega), ?_, fun i h hB => ?_⟩, fun i h => ?_, hx1, ((hu.then_non hal).mono (fun _ _ f => f.elim)).trans (hu3.mono (fun _ _ h => .inl h)) (fun _ _ h => h) |>.trans v1 (fun _ _ h => .inr h)⟩
                  · have h1 := ho3.upd v1 (fun i h e => by rcases hat4 i h with h | h; have := HBL.out i h; omega; omega)
                    rw [← icells_snoc] at h1
                    rw [HI2.out]
                    simpa [Hnm.out] using h1
                  · rcases hat4 i hB with h3 | h3
                    · exact hdis i h h3
                    · have := HAL.out i h; omega
                  · rcases hat4 i h with h3 | h3
                    · exact .inl h3
                    · exact .inr (by omega)
              · have t2 : decide (a < 0) = false := decide_eq_false h0
                have hni := HNI2.out
                rw [if_neg h0] at hni
                have HI1 : Hid (iv1 = a + 1) := congrArg Prod.fst hni
                have HI2 : Hid (msI = ms) := congrArg Prod.snd hni
                have HBM := Lib.hid hbm
                have hsm0 : nm_ ≤ 1000000 := by omega
                clear hni h0 hbm
                go_wp2_with fail
                go_meet
                case rel =>
                  have v1 : Upd (· = w.heap.size) wr (wr.setCell ⟨w.heap.size, 3, none⟩ (.int .i64 (a + 1))) := updCell _ _ _ _
                  have hx1 : Blk (wr.setCell ⟨w.heap.size, 3, none⟩ (.int .i64 (a + 1))) w.heap.size 24 #[.int .i64 v, .int .i64 op, .int .i64 imm, .int .i64 iv1, .slice KA k kc] := by
                    rw [HI1.out]; simpa using hbr.set_ 3 (.int .i64 (a + 1))
                  refine ⟨B, d, by rw [HI2.out, Hnm.out], ?_, fun i h => .inl h, hx1, (hu.mono (fun _ _ f => f.elim)).trans v1 (fun _ _ h => .inr h)⟩
                  rw [HI2.out]
                  exact HBM.out.upd v1 (fun i h e => by have := HAL.out i h; omega) (fun i h e => by have := HBL.out i h; omega)
        · have tiv : tb = false := by rw [← Htb.out]; exact decide_eq_false hiv
          subst tiv
          have hni := HNI.out
          rw [if_neg hiv] at hni
          have h1 : iv1 = iv := congrArg Prod.fst hni
          have h2 : msI = ms := congrArg Prod.snd hni
          subst h1 h2
          clear hiv hni
          go_wp2_with fail
          go_meet
          case rel => exact ⟨B, d, by rw [Hnm.out], HNS, fun i h => .inl h, hb, Upd.refl⟩
      case rest =>
      obtain ⟨B0, d0, rfl, hns0, hat0, hb0, hu0⟩ := hcut
      obtain ⟨w1, rfl⟩ : ∃ w1 : World, w1 = wc := ⟨_, rfl⟩
      have hbR0 := hb2.upd hu0 (fun h => by rcases h with h | h; have := HBL.out _ h; omega; omega)
      have hpK0 := PtK.upd hu0 (fun i hi h e => by
        have h1 := HF0.out i h.1
        have h2 := h.2
        rcases e with e | e
        · exact h1.2 e
        · omega) p KA kc hpW
      have c4 := hb0.cell 4
      have hs1 := hu0.size
      clear hb hb2 hpW c0 c3 e0 e2
      obtain ⟨w2, Hw2⟩ := nm (w1.alloc (.cells #[] 24))
      have uw2 : Upd Non w1 w2 := by rw [← Hw2.out]; exact Upd.refl.alloc _
      have hsw2 : w2.heap.size = w1.heap.size + 1 := by rw [← Hw2.out]; simp
      have hK0 : Own w2 24 5 (some ⟨w1.heap.size, 0, none⟩) 0 0 [] := Own.mk_ (cur := #[]) (by rw [← Hw2.out]; exact Blk.new _ _ _) (by omega) (by simp [maxLen]) rfl rfl
      obtain ⟨F0, HF0e⟩ : ∃ F0 : Nat → Prop, Hid (F0 = fun i => F i ∧ i < w.heap.size) := ⟨_, rfl⟩
      have HL := Lib.hid (fun (ks : List Pt) => numL_lens ks vs msI)
      have hml : msI.length ≤ ms.length + 1 := by rw [Hnm.out]; exact hIl
      go_wp2_with fail
      rw [Hw2.out]
      go_loopg [1, 2, 12, 13, 14] k (fun g s1 s2 s12 i _ wr => ∃ (j : Nat) (A1 : Option Addr) (c1 : Nat) (B1 : Option Addr) (d1 : Nat) (KS : Option Addr) (ks : Nat) (L : List Pt) (vs1 ms1 : List Int),
        Hid (g = k - j) ∧ j ≤ k ∧ s1 = .slice A1 vs1.length c1 ∧ s2 = .slice B1 ms1.length d1 ∧ s12 = .slice KS j ks ∧ i = .int .i64 j ∧
        Hid ((L, vs1, ms1) = numL (p.kids.take j) vs msI) ∧ Hid (NS wr A1 c1 vs1 B1 d1 ms1) ∧
        Hid (PtO wr (fun i => (F0 i ∨ w.heap.size + 2 ≤ i) ∧ ¬ At A1 i ∧ ¬ At B1 i) KS j ks L) ∧
        Hid (∀ i, At A1 i → At A i ∨ w1.heap.size ≤ i) ∧ Hid (∀ i, At B1 i → At B0 i ∨ w1.heap.size ≤ i) ∧ Hid (∀ i, At KS i → w1.heap.size ≤ i ∧ ¬ At A1 i ∧ ¬ At B1 i) ∧
        Upd (fun i => At A i ∨ At B0 i) w1 wr)
      case atStart =>
        refine ⟨0, A, c, B0, d0, _, 0, [], vs, msI, rfl, by omega, by rw [Hnv.out], rfl, rfl, rfl, rfl, hns0.upd uw2 (fun _ _ f => f) (fun _ _ f => f), ⟨rfl, _, hK0, PtCells.nil⟩, fun i h => .inl h, fun i h => .inl h, fun i h => ?_, uw2.mono (fun _ _ f => f.elim)⟩
        rw [At.some_] at h
        subst h
        refine ⟨by omega, fun hA => ?_, fun hB => ?_⟩
        · have := HAL.out _ hA; omega
        · have := hns0.2.1.lt hB; omega
      case round =>
        obtain ⟨j, A1, c1, B1, d1, KS, ks, L, vs1, ms1, Hg, hj, rfl, rfl, rfl, rfl, HN, HNS1, HPO, HA1, HB1, HKS, hu⟩ := hrel
        by_cases hlt : j < k
        · have hjk : j < p.kids.length := by rw [Hk.out]; exact hlt
          have t1 : decide (j < k) = true := decide_eq_true hlt
          have hbr := hb0.upd hu (fun h => by
            rcases h with h | h
            · have := HAL.out _ h; omega
            · rcases hat0.out _ h with h | h
              · have := HBL.out _ h; omega
              · omega)
          have c4r := hbr.cell 4
          have hsu := hu.size
          go_upto_region 27 with fail
          obtain ⟨w5, Hw5⟩ := nm (wr.alloc (.cells #[.int .i64 0, .int .i64 0, .int .i64 0, .int .i64 0, .slice none 0 0] 24))
          have u5 : Upd Non wr w5 := by rw [← Hw5.out]; exact Upd.refl.alloc _
          have hs5 : w5.heap.size = wr.heap.size + 1 := by rw [← Hw5.out]; simp
          have hB5 : Blk w5 wr.heap.size 24 #[.int .i64 0, .int .i64 0, .int .i64 0, .int .i64 0, .slice none 0 0] := by rw [← Hw5.out]; exact Blk.new _ _ _
          have hpk := PtK.upd hu (fun i hi h e => by
            have h1 := HF0.out i h.1
            have h2 := h.2
            rcases e with e | e
            · exact h1.1 e
            · rcases hat0.out _ e with e | e
              · exact h1.2 e
              · omega) _ _ _ hpK0
          have hpk := PtK.upd u5 (fun _ _ _ f => f) _ _ _ hpk
          obtain ⟨bk, ok, hKA, hFk, hbw, KQ, kq, h0, h1, h2, h3, h4, hqk⟩ := hpk.at_ hjk
          have HTK : Hid (p.kids.take (j + 1) = p.kids.take j ++ [p.kids[j]]) := take_snoc_ hjk
          have hqs : p.kids[j].size ≤ Pt.sizeL (p.kids.take (j + 1)) ∧ Pt.sizeL (p.kids.take j) + p.kids[j].size ≤ Pt.sizeL p.kids := by
            have e1 := Pt.sizeL_take p.kids j hjk
            have e2 := Pt.sizeL_take_le p.kids (j + 1)
            omega
          have CI := HI.out p.kids[j] (List.getElem_mem hjk) w5 F0 KQ kq A1 c1 B1 d1 vs1 ms1
          generalize p.kids[j] = q at *
          have hll := HL.out (p.kids.take j)
          rw [← HN.out] at hll
          have hse := HS.out
          have hnv := Hnv.out
          have hnm := Hnm.out
          have hF0 := HF0e.out
          have hF01 : ∀ i, F0 i → ¬ At A1 i ∧ ¬ At B1 i := by
            intro i hi
            rw [hF0] at hi
            refine ⟨fun h => ?_, fun h => ?_⟩
            · rcases HA1.out i h with h | h
              · exact (HF0.out i hi.1).1 h
              · have := hi.2; omega
            · rcases HB1.out i h with h | h
              · rcases hat0.out _ h with h | h
                · exact (HF0.out i hi.1).2 h
                · have := hi.2; omega
              · have := hi.2; omega
          have hns5 := HNS1.out.upd u5 (fun _ _ f => f) (fun _ _ f => f)
          have C1 := Lib.hid (CI (by rw [hF0]; exact hqk) hF01 hns5 (by have := hll.1; simp only at this; omega) (by have := hll.2.1; simp only at this; omega))
          have HNE : Hid (numL (p.kids.take (j + 1)) vs msI = (L ++ [(numF q vs1 ms1).1], (numF q vs1 ms1).2)) := by
            show _ = _
            rw [HTK.out, numL_snoc, ← HN.out]
          obtain ⟨Rq, HRq⟩ := nm (numF q vs1 ms1)
          rw [HRq.out] at C1 HNE
          have HQ := Lib.hid hqk
          have c4r := hbr.upd u5 (fun f => f) |>.cell 4
          rw [Hw5.out]
          clear CI hF0 hns5 hqk hpk hll hse hqs hF01 hnv hnm
          subst hKA
          go_wp2_with fail
          refine C1.out.mono ?_
          rintro e w7 ⟨KA', kc', A2, c2, B2, d2, rfl, hq7, hn7, ha7, hb7, u7⟩
          have HQ7 := Lib.hid hq7
          have HN7 := Lib.hid hn7
          have HA7 := Lib.hid ha7
          have HB7 := Lib.hid hb7
          obtain ⟨q', Hq'⟩ := nm Rq.1
          obtain ⟨vs2, Hvs2⟩ := nm Rq.2.1
          obtain ⟨ms2, Hms2⟩ := nm Rq.2.2
          rw [Hq'.out] at HQ7
          rw [Hvs2.out, Hms2.out] at HN7
          rw [Hq'.out, Hvs2.out, Hms2.out]
          have hA5 : ∀ i, At A1 i ∨ At B1 i → i < wr.heap.size := fun i h => by
            rcases h with h | h
            · exact HNS1.out.1.lt h
            · exact HNS1.out.2.1.lt h
          have hB7 := hB5.upd u7 (fun h => by have := hA5 _ h; omega)
          have r0 := hB7.cell 0
          have r1 := hB7.cell 1
          have r2 := hB7.cell 2
          have r3 := hB7.cell 3
          have r4 := hB7.cell 4
          have rf := hB7.frozen
          have HB7b := Lib.hid hB7
          clear hq7 hn7 ha7 hb7 hB7 h0 h1 h2 h3 h4 c4r hbr
          unfold pv
          go_upto_region 28 with fail
          rw [set5_eq]
          obtain ⟨w8, Hw8⟩ := nm (set5 w7 wr.heap.size (.int .i64 q'.v) (.int .i64 q'.op) (.int .i64 q'.imm) (.int .i64 q'.iv) (.slice KA' q'.kids.length kc'))
          have u8 : Upd (· = wr.heap.size) w7 w8 := by rw [← Hw8.out]; exact set5_upd _ _ _ _ _ _ _
          have b8 : Blk w8 wr.heap.size 24 #[.int .i64 q'.v, .int .i64 q'.op, .int .i64 q'.imm, .int .i64 q'.iv, .slice KA' q'.kids.length kc'] := by rw [← Hw8.out]; exact set5_blk HB7b.out _ _ _ _ _
          rw [Hw8.out]
          have s0 := b8.cell 0
          have s1 := b8.cell 1
          have s2 := b8.cell 2
          have s3 := b8.cell 3
          have s4 := b8.cell 4
          have hs7 := u7.size
          have hs8 := u8.size
          have hKS := HKS.out
          have hKlt : ∀ i, At KS i → i < wr.heap.size := fun i h => HPO.out.lt h
          have hA2w : ∀ i, At A2 i → At A1 i ∨ w5.heap.size ≤ i := HA7.out
          have hB2w : ∀ i, At B2 i → At B1 i ∨ w5.heap.size ≤ i := HB7.out
          have hn7l : ∀ i, At A2 i ∨ At B2 i → i < w7.heap.size := fun i h => by
            rcases h with h | h
            · exact HN7.out.1.lt h
            · exact HN7.out.2.1.lt h
          have hp0 := HPO.out.mono (G' := fun i => (F0 i ∨ w.heap.size + 2 ≤ i) ∧ ¬ At A2 i ∧ ¬ At B2 i ∧ ¬ At A1 i ∧ ¬ At B1 i ∧ i < wr.heap.size) (fun i hi h =>
            ⟨h.1, fun f => by rcases hA2w i f with f | f; exact h.2.1 f; omega, fun f => by rcases hB2w i f with f | f; exact h.2.2 f; omega, h.2.1, h.2.2, hi⟩)
          have hp8 := (((hp0.upd u5 (fun _ _ f => f) (fun _ _ _ f => f)).upd u7 (fun i h e => by rcases e with e | e; exact (hKS i h).2.1 e; exact (hKS i h).2.2 e) (fun i _ h e => by
            rcases e with e | e
            · exact h.2.2.2.1 e
            · exact h.2.2.2.2.1 e)).upd u8 (fun i h e => by have := hKlt i h; omega) (fun i _ h e => by have := h.2.2.2.2.2; omega)).mono (G' := fun i => (F0 i ∨ w.heap.size + 2 ≤ i) ∧ ¬ At A2 i ∧ ¬ At B2 i) (fun i _ h => ⟨h.1, h.2.1, h.2.2.1⟩)
          have hF0w : ∀ i, F0 i → i < w.heap.size := fun i h => by rw [HF0e.out] at h; exact h.2
          have hq8 : PtK w8 (fun i => ((F0 i ∨ w.heap.size + 2 ≤ i) ∧ ¬ At A2 i ∧ ¬ At B2 i) ∧ ¬ At KS i) q' KA' kc' :=
            PtK.mono (fun i _ h => ⟨⟨by rcases h.1 with h | h; exact .inl h; exact .inr (by omega), h.2.1, h.2.2⟩, fun f => by
              have h3 := (hKS i f).1
              have h4 := hKlt i f
              rcases h.1 with h | h
              · have := hF0w i h; omega
              · omega⟩) _ _ _ (PtK.upd u8 (fun i hi h e => by
                rcases h.1 with h | h
                · have := hF0w i h; omega
                · omega) _ _ _ HQ7.out)
          have hn8 := HN7.out.upd u8 (fun i h e => by rcases hA2w i h with h | h; have := hA5 i (.inl h); omega; omega) (fun i h e => by rcases hB2w i h with h | h; have := hA5 i (.inr h); omega; omega)
          obtain ⟨hnL, cs, ho8, hc8⟩ := id hp8
          have HP8 := Lib.hid hp8
          have HC8 := Lib.hid hc8
          have HQ8 := Lib.hid hq8
          have HN8 := Lib.hid hn8
          have HA2w := Lib.hid hA2w
          have HB2w := Lib.hid hB2w
          have HKSb := Lib.hid hKS
          have HKlt := Lib.hid hKlt
          have HF0w := Lib.hid hF0w
          have HA5 := Lib.hid hA5
          have Hn7l := Lib.hid hn7l
          clear hp0 hp8 hc8 hq8 hn8 hA2w hB2w hKS hKlt hF0w hA5 hn7l b8 hnL r0 r1 r2 r3 r4 rf
          go_wp2_with (at_builtin; refine wpList_app rfl rfl T_pats rfl (ho8.alloc _) rfl (Sl.new _ _ _) rfl (by simp [Value.oneCell']) (by simp only [maxLen]; omega) (by omega) ?_; intro A9 c9 w9 ho9 hu9 hat9)
          have hal : Upd Non w8 (w8.alloc (.cells #[.int .i64 q'.v, .int .i64 q'.op, .int .i64 q'.imm, .int .i64 q'.iv, .slice KA' q'.kids.length kc'] 24)) := Upd.refl.alloc _
          have hat9b : ∀ i, At A9 i → At KS i ∨ i = w8.heap.size + 1 := fun i h => by simpa using hat9 i h
          have hpa := HP8.out.upd hal (fun _ _ f => f) (fun _ _ _ f => f)
          have hp9 := PtO.snoc (G' := fun i => (F0 i ∨ w.heap.size + 2 ≤ i) ∧ ¬ At A2 i ∧ ¬ At B2 i) hpa (HC8.out.mono hal (fun _ _ _ f => f) (fun _ _ h => h)) (PtK.upd hal (fun _ _ _ f => f) _ _ _ HQ8.out) ho9 hu9 hat9 (fun _ _ h => h)
          have hn9 := (HN8.out.upd hal (fun _ _ f => f) (fun _ _ f => f)).upd hu9 (fun i h e => by
            rcases HA2w.out i h with h | h
            · exact (HKSb.out i e).2.1 h
            · have := HKlt.out i e; omega) (fun i h e => by
            rcases HB2w.out i h with h | h
            · exact (HKSb.out i e).2.2 h
            · have := HKlt.out i e; omega)
          have HU9 : Upd (fun i => At A i ∨ At B0 i) w1 w9 := by
            refine Upd.trans (Upd.then_non (Upd.trans (Upd.trans (hu.then_non u5) u7 ?_) u8 ?_) hal) hu9 ?_
            · intro i hi h
              rcases h with h | h
              · rcases HA1.out i h with h | h
                · exact .inl h
                · omega
              · rcases HB1.out i h with h | h
                · exact .inr h
                · omega
            · intro i hi h; omega
            · intro i hi h; have := (HKSb.out i h).1; omega
          have HN1 : Hid ((L ++ [q'], vs2, ms2) = numL (p.kids.take (j + 1)) vs msI) := by
            show _ = _
            rw [HNE.out, ← Hq'.out, ← Hvs2.out, ← Hms2.out]
          have HN9 := Lib.hid hn9
          have HP9 := Lib.hid hp9
          have HA9 : Hid (∀ i, At A2 i → At A i ∨ w1.heap.size ≤ i) := fun i h => by
            rcases HA2w.out i h with h | h
            · exact HA1.out i h
            · exact .inr (by omega)
          have HB9 : Hid (∀ i, At B2 i → At B0 i ∨ w1.heap.size ≤ i) := fun i h => by
            rcases HB2w.out i h with h | h
            · exact HB1.out i h
            · exact .inr (by omega)
          have HK9 : Hid (∀ i, At A9 i → w1.heap.size ≤ i ∧ ¬ At A2 i ∧ ¬ At B2 i) := fun i h => by
            rcases hat9b i h with h | h
            · have h1 := HKSb.out i h
              have h2 := HKlt.out i h
              refine ⟨h1.1, fun f => ?_, fun f => ?_⟩
              · rcases HA2w.out i f with f | f
                · exact h1.2.1 f
                · omega
              · rcases HB2w.out i f with f | f
                · exact h1.2.2 f
                · omega
            · refine ⟨by omega, fun f => ?_, fun f => ?_⟩
              · have := Hn7l.out i (.inl f); omega
              · have := Hn7l.out i (.inr f); omega
          clear hn9 hp9 hpa ho9 hu9 hat9 hat9b ho8
          go_roundg (k - (j + 1))
          case measure => rw [Hg.out]; omega
          case rel => exact ⟨j + 1, A2, c2, B2, d2, A9, c9, _, vs2, ms2, rfl, by omega, rfl, rfl, rfl, by go_num, HN1, HN9, HP9, HA9, HB9, HK9, HU9⟩
        · obtain rfl : k = j := by omega
          have HTK : Hid (p.kids.take k = p.kids) := List.take_of_length_le (by rw [Hk.out]; exact Nat.le_refl _)
          rw [HTK.out] at HN
          have t1 : decide (k < k) = false := by simp
          have hbox : ∀ i, At A i ∨ At B0 i → i ≠ w.heap.size ∧ i ≠ w.heap.size + 1 := fun i h => by
            rcases h with h | h
            · have := HAL.out _ h; omega
            · rcases hat0.out _ h with h | h
              · have := HBL.out _ h; omega
              · omega
          have hbr := hb0.upd hu (fun h => (hbox _ h).1 rfl)
          have hbR := hbR0.upd hu (fun h => (hbox _ h).2 rfl)
          have c4r := hbr.cell 4
          have f4r := hbr.frozen 4
          obtain ⟨X1, HX1⟩ := nm (wr.setCell ⟨w.heap.size, 4, none⟩ (.slice KS k ks))
          have x1 := HX1.out
          have hx1 : Blk X1 w.heap.size 24 #[.int .i64 v, .int .i64 op, .int .i64 imm, .int .i64 iv1, .slice KS k ks] := by rw [← x1]; simpa using hbr.set_ 4 (.slice KS k ks)
          have v1 : Upd (· = w.heap.size) wr X1 := by rw [← x1]; exact updCell _ _ _ _
          have hxR := hbR.upd v1 (by omega)
          have k0 := hx1.cell 0
          have k1 := hx1.cell 1
          have k2 := hx1.cell 2
          have k3 := hx1.cell 3
          have k4 := hx1.cell 4
          have r0 := hxR.cell 0
          have r1 := hxR.cell 1
          have r2 := hxR.cell 2
          have r3 := hxR.cell 3
          have r4 := hxR.cell 4
          have rf := hxR.frozen
          have HXR := Lib.hid hxR
          have Hbox := Lib.hid hbox
          clear hbox hxR hbr hbR hx1
          go_wp2_with fail
          rw [set5_eq]
          refine bodyPost_ret (results_cell_row_tmps rfl _ _ (w.heap.size + 1) 24 _ (0, 0) _ rfl (set5_blk HXR.out _ _ _ _ _) Try.underlying24 rfl (by kernel_rfl)) rfl ?_
          have uS := set5_upd X1 (w.heap.size + 1) (.int .i64 v) (.int .i64 op) (.int .i64 imm) (.int .i64 iv1) (.slice KS k ks)
          obtain ⟨X2, HX2⟩ := nm (set5 X1 (w.heap.size + 1) (.int .i64 v) (.int .i64 op) (.int .i64 imm) (.int .i64 iv1) (.slice KS k ks))
          rw [HX2.out] at uS ⊢
          have UX : Upd (fun i => i = w.heap.size ∨ i = w.heap.size + 1) wr X2 := (v1.mono (fun _ _ h => .inl h)).trans uS (fun _ _ h => .inr h)
          have hlen := numL_len p.kids vs msI
          rw [← HN.out, Hk.out] at hlen
          simp only at hlen
          have hRe : R = (.mk v op imm iv1 L, vs1, ms1) := by rw [HR2.out, ← HN.out]
          have hF0w : ∀ i, F0 i → i < w.heap.size := fun i h => by rw [HF0e.out] at h; exact h.2
          have hF0F : ∀ i, F0 i → F i := fun i h => by rw [HF0e.out] at h; exact h.1
          have hA1 : ∀ i, At A1 i → i ≠ w.heap.size ∧ i ≠ w.heap.size + 1 := fun i h => by
            rcases HA1.out i h with h | h
            · have := HAL.out _ h; omega
            · omega
          have hB1 : ∀ i, At B1 i → (At B i ∨ w.heap.size + 2 ≤ i) := fun i h => by
            rcases HB1.out i h with h | h
            · exact hat0.out _ h
            · exact .inr (by omega)
          have hB1n : ∀ i, At B1 i → i ≠ w.heap.size ∧ i ≠ w.heap.size + 1 := fun i h => by
            rcases hB1 i h with h | h
            · have := HBL.out _ h; omega
            · omega
          have hpr := HPO.out.mono (G' := fun i => (F0 i ∨ w.heap.size + 2 ≤ i) ∧ ¬ At A1 i ∧ ¬ At B1 i) (fun _ _ h => h)
          have hp2 := hpr.upd UX (fun i h e => by have := (HKS.out i h).1; omega) (fun i _ h e => by
            rcases h.1 with h | h
            · have := hF0w i h; omega
            · omega)
          rw [hRe]
          refine ⟨KS, ks, A1, c1, B1, d1, ?_, ?_, HNS1.out.upd UX (fun i h e => by have := hA1 i h; omega) (fun i h e => by have := hB1n i h; omega), fun i h => ?_, fun i h => ?_, ?_⟩
          · show _ = Ending.returned (.tuple #[.agg #[_, _, _, _, .slice KS L.length ks], .slice _ vs1.length _, .slice _ ms1.length _])
            rw [hlen]; rfl
          · exact hp2.view (fun i h => ⟨.inr (by have := (HKS.out i h).1; omega), (HKS.out i h).2⟩) (fun i _ h => ⟨by
              rcases h.1 with h | h
              · exact .inl (hF0F i h)
              · exact .inr (by omega), h.2⟩) _ _ _ _
          · rcases HA1.out i h with h | h
            · exact .inl h
            · exact .inr (by omega)
          · rcases hB1 i h with h | h
            · exact .inl h
            · exact .inr (by omega)
          · have h1 : Upd (fun i => At A i ∨ At B i) w w1 := (hU0.mono (fun _ _ f => f.elim)).trans hu0 (fun i h e => by
              rcases e with e | e
              · exact .inr e
              · omega)
            have h2 := h1.trans hu (fun i h e => by
              rcases e with e | e
              · exact .inl e
              · rcases hat0.out i e with e | e
                · exact .inr e
                · omega)
            exact h2.trans UX (fun i h e => by omega)
end Go.Proofs.Ytnefhokojbkppaa
