/-
  What Union, rebuildStep and Rebuild of an e-graph do.
  What rebuildStep and Rebuild of an e-graph do.
  What Rebuild of an e-graph does: it rebuilds to the end.
-/
import Derived.Test.YtigambcefdeaoaaMrgA
import Derived.Test.YtigambcefdeaoaaRebP
import Derived.Test.YtigambcefdeaoaaGRead
namespace Go.Proofs.Ytigambcefdeaoaa
open Go.RowKit

/-- The graph at gb has become G; only blocks of its own have turned. -/
def Next (w : World) (ρ : Nat → Role) (gb : Nat) (w' : World) (G : EG) : Prop := ∃ ρ' a', GM w' ρ' gb a' G ∧ Upd (Mine ρ) w w' ∧ ∀ k, k < w.heap.size → ρ' k = ρ k
theorem Next.same {w w' : World} {ρ : Nat → Role} {gb : Nat} {a : GA} {G : EG} (h : GM w ρ gb a G) (u : Upd Non w w') : Next w ρ gb w' G := ⟨ρ, a, h.non u, u.mono (fun _ _ f => f.elim), fun _ _ => rfl⟩
theorem Next.trans {w w1 w' : World} {ρ : Nat → Role} {gb : Nat} {G : EG} {ρ1 : Nat → Role} (hu : Upd (Mine ρ) w w1) (he : ∀ k, k < w.heap.size → ρ1 k = ρ k) (h : Next w1 ρ1 gb w' G) : Next w ρ gb w' G := by
  obtain ⟨ρ', a', h1, h2, h3⟩ := h
  have := hu.size
  exact ⟨ρ', a', h1, hu.trans h2 (fun k hk h => by unfold Mine at *; rwa [he k hk] at h), fun k hk => (h3 k (by omega)).trans (he k hk)⟩
theorem Next.after {w w1 w' : World} {ρ : Nat → Role} {gb : Nat} {G : EG} (u : Upd Non w w1) (h : Next w1 ρ gb w' G) : Next w ρ gb w' G :=
  Next.trans (u.mono (fun _ _ f => f.elim)) (fun _ _ => rfl) h

def uniOk (G : EG) (s : Stp) : Bool := decide (0 ≤ s.l ∧ s.l < G.L.length ∧ 0 ≤ s.r ∧ s.r < G.L.length ∧ (sortsF G.L).getD s.l.toNat 0 = (sortsF G.L).getD s.r.toNat 0)
def uniNew (G : EG) (s : Stp) : Bool := uniOk G s && decide (G.c s.l.toNat ≠ G.c s.r.toNat)
def uniG (G : EG) (s : Stp) : EG := if uniNew G s then G.merge s else G
def uniRet (G : EG) (s : Stp) : Value := .tuple #[.bool (uniNew G s), .int .i64 (if uniOk G s then 0 else 1)]
def stpV (s : Stp) (VA MA : Option Addr) (vc mc : Nat) : Value := .agg #[.int .i64 s.l, .int .i64 s.r, .int .i64 s.why, .slice VA s.vars.length vc, .slice MA s.imms.length mc]

theorem GM.sat {w : World} {ρ : Nat → Role} {gb : Nat} {a : GA} {G : EG} (h : GM w ρ gb a G) {i : Nat} (hi : i < G.L.length) : ∃ b, a.s = some ⟨b, 0, none⟩ ∧ b < w.heap.size ∧ w.cell? ⟨b, i, none⟩ = some (.int .i64 ((sortsF G.L).getD i 0)) := by
  have hl : (sortsF G.L).length = G.L.length := by unfold sortsF; exact sortsTo_len _ _
  obtain ⟨b, e⟩ := h.s.1.some_ (by omega)
  have hf := h.s.1
  rw [e] at hf
  have hi' : i < (icells (sortsF G.L)).length := by simp [icells]; omega
  have hc := hf.cell_ hi'
  refine ⟨b, e, World.block_lt_of_cell? _ _ hc, ?_⟩
  rw [hc, getD_lt (by omega)]
  simp [icells]

set_option maxRecDepth 100000 in
set_option maxHeartbeats 4000000 in
theorem gUnion_c (w : World) (ρ : Nat → Role) (gb : Nat) (a : GA) (G : EG) (h : GM w ρ gb a G) (hn : G.L.length ≤ 2000) (hT : G.T.length ≤ 1000000000) (hnm : Named G.L.length G.c) (s : Stp)
    (VA MA : Option Addr) (vc mc : Nat) (F : Nat → Prop) (hv : Ints w F VA s.vars) (hm : Ints w F MA s.imms) (hF : ∀ k, k < w.heap.size → F k → ρ k = .no) (hvl : s.vars.length ≤ 100000000000) (hml : s.imms.length ≤ 100000000000) :
    Calls Try.prog 11 #[gp gb, stpV s VA MA vc mc] w fun e w' => e = .returned (uniRet G s) ∧ Next w ρ gb w' (uniG G s) := by
  obtain ⟨W, HW⟩ := nm (w.alloc (.cells #[.int .i64 s.l, .int .i64 s.r, .int .i64 s.why, .slice VA s.vars.length vc, .slice MA s.imms.length mc] 34))
  have hU : Upd Non w W := by rw [← HW.out]; exact Upd.refl.alloc _
  have hb : Blk W w.heap.size 34 #[.int .i64 s.l, .int .i64 s.r, .int .i64 s.why, .slice VA s.vars.length vc, .slice MA s.imms.length mc] := by rw [← HW.out]; exact Blk.new _ _ _
  have e0 := HW.out
  have hM := h.non hU
  have CB := Lib.hid (fun (m : Nat) (x : Int) (b : Bool) (hx : decide (0 ≤ x ∧ x < G.L.length) = b) => (gExists_c (W.drewN m) ρ gb a G (hM.non (Upd.refl.drewN m)) x).mono (R' := fun e w' => e = .returned (.bool b) ∧ w' = W.drewN m) (fun _ _ h => ⟨by rw [← hx]; exact h.1, h.2.symm⟩))
  have d0 := hb.cell 0
  have d1 := hb.cell 1
  unfold gp stpV at *
  by_cases h1 : 0 ≤ s.l ∧ s.l < G.L.length
  · have t1 : decide (0 ≤ s.l ∧ s.l < G.L.length) = true := decide_eq_true h1
    by_cases h2 : 0 ≤ s.r ∧ s.r < G.L.length
    · have t2 : decide (0 ≤ s.r ∧ s.r < G.L.length) = true := decide_eq_true h2
      obtain ⟨i, hi⟩ := Int.eq_ofNat_of_zero_le h1.1
      obtain ⟨j, hj⟩ := Int.eq_ofNat_of_zero_le h2.1
      have hil : i < G.L.length := by omega
      have hjl : j < G.L.length := by omega
      obtain ⟨sb, es, hsb, hsi⟩ := hM.sat hil
      obtain ⟨sb', es', _, hsj⟩ := hM.sat hjl
      obtain rfl : sb = sb' := by rw [es] at es'; injection es' with e; injection e
      obtain ⟨fb, ef, hfb, hfi⟩ := hM.fat hil
      obtain ⟨fb', ef', _, hfj⟩ := hM.fat hjl
      obtain rfl : fb = fb' := by rw [ef] at ef'; injection ef' with e; injection e
      clear es' ef'
      have c1 := hM.c1
      have c2 := hM.c2
      rw [es] at c1
      rw [ef] at c2
      rw [hi] at d0 t1
      rw [hj] at d1 t2
      have HU : Hid (uniOk G s = decide ((sortsF G.L).getD i 0 = (sortsF G.L).getD j 0)) := by
        show _ = _
        simp only [uniOk, hi, hj, Int.toNat_natCast]
        rw [decide_eq_decide]
        constructor
        · rintro ⟨_, _, _, _, h⟩; exact h
        · intro h; exact ⟨by omega, by omega, by omega, by omega, h⟩
      have HC : Hid (uniNew G s = (uniOk G s && decide (G.c i ≠ G.c j))) := by
        show _ = _
        simp only [uniNew, hi, hj, Int.toNat_natCast]
      by_cases h3 : (sortsF G.L).getD i 0 = (sortsF G.L).getD j 0
      · have hx : Hid (uniOk G s = true) := by show _ = _; rw [HU.out]; exact decide_eq_true h3
        rw [← h3] at hsj
        generalize (sortsF G.L).getD i 0 = y at *
        have by1 : (y != y) = false := by simp
        by_cases h4 : G.c i = G.c j
        · have HR : Hid (uniRet G s = .tuple #[.bool false, .int .i64 0]) := by show _ = _; simp [uniRet, HC.out, hx.out, h4]
          have HG : Hid (uniG G s = G) := by show _ = _; simp [uniG, HC.out, h4]
          rw [← h4] at hfj
          have HH := Lib.hid h
          generalize G.c i = z at *
          have hb4 : ((z : Int) == (z : Int)) = true := by simp
          generalize G.L.length = n at *
          clear h4 h3 hM h HU HC
          rw [hi, hj]
          rw [hi, hj] at e0
          go_enter Try.func11, Try.ntmps11
          go_wp2_with fail
          go_quiet (first | (go_at_call 37; exact Calls.quiet_of_same (CB.out _ _ _ (by assumption))))
          go_wp2_with fail
          go_quiet (fail)
          go_wp2_with fail
          go_ret2
          exact ⟨by rw [HR.out]; rfl, by rw [HG.out]; exact Next.same HH.out ((hU.drewN _).drewN _)⟩
        · have HR : Hid (uniRet G s = .tuple #[.bool true, .int .i64 0]) := by show _ = _; simp [uniRet, HC.out, hx.out, h4]
          have HG : Hid (uniG G s = G.merge s) := by show _ = _; simp [uniG, HC.out, hx.out, h4]
          have CM := fun w2 (u : Upd Non W w2) => gMerge_c w2 ρ gb a G (hM.non u) hn hT hnm s i j hi hj hil hjl h4 VA MA vc mc (fun k => F k ∧ k < w.heap.size) (((hv.mono (G := fun k => F k ∧ k < w.heap.size) (fun k hk hf => ⟨hf, hk⟩)).upd hU (fun _ _ _ f => f)).upd u (fun _ _ _ f => f)) (((hm.mono (G := fun k => F k ∧ k < w.heap.size) (fun k hk hf => ⟨hf, hk⟩)).upd hU (fun _ _ _ f => f)).upd u (fun _ _ _ f => f)) (fun k _ hf => hF k hf.2 hf.1) hvl hml
          unfold gp at CM
          rw [hi, hj] at CM
          have CMH := Lib.hid CM
          have d2 := hb.cell 2
          have d3 := hb.cell 3
          have d4 := hb.cell 4
          have hb4 : ((G.c i : Int) == (G.c j : Int)) = false := by simp; omega
          generalize G.c i = z at *
          generalize G.c j = z2 at *
          generalize G.L.length = n at *
          clear h4 h3 hM HU HC CM hv hm hF h
          rw [hi, hj]
          rw [hi, hj] at e0 d2 d3 d4
          go_enter Try.func11, Try.ntmps11
          go_wp2_with fail
          go_quiet (first | (go_at_call 37; exact Calls.quiet_of_same (CB.out _ _ _ (by assumption))))
          go_wp2_with fail
          go_quiet (fail)
          go_wp2_with fail
          refine (CMH.out _ (Upd.refl.drewN _)).mono ?_
          rintro e w3 ⟨rfl, hN⟩
          go_wp2_with fail
          go_ret2
          exact ⟨by rw [HR.out]; rfl, by rw [HG.out]; exact Next.after (hU.drewN _) hN⟩
      · have hx : uniOk G s = false := by rw [HU.out]; exact decide_eq_false h3
        have HR : Hid (uniRet G s = .tuple #[.bool false, .int .i64 1]) := by show _ = _; simp [uniRet, HC.out, hx]
        have HG : Hid (uniG G s = G) := by show _ = _; simp [uniG, HC.out, hx]
        have HH := Lib.hid h
        have hb4 : ((sortsF G.L).getD i 0 != (sortsF G.L).getD j 0) = true := by simpa using h3
        generalize (sortsF G.L).getD i 0 = y at *
        generalize (sortsF G.L).getD j 0 = y2 at *
        generalize G.L.length = n at *
        clear hM h HU HC h3 hx
        rw [hi, hj]
        rw [hi, hj] at e0
        go_enter Try.func11, Try.ntmps11
        go_wp2_with fail
        go_quiet (first | (go_at_call 37; exact Calls.quiet_of_same (CB.out _ _ _ (by assumption))))
        go_wp2_with fail
        go_ret2
        exact ⟨by rw [HR.out]; rfl, by rw [HG.out]; exact Next.same HH.out (hU.drewN _)⟩
    · have t2 : decide (0 ≤ s.r ∧ s.r < G.L.length) = false := decide_eq_false h2
      have hx : uniOk G s = false := by simp only [uniOk, decide_eq_false_iff_not]; rintro ⟨_, _, p3, p4, _⟩; exact h2 ⟨p3, p4⟩
      have HR : Hid (uniRet G s = .tuple #[.bool false, .int .i64 1]) := by show _ = _; simp [uniRet, uniNew, hx]
      have HG : Hid (uniG G s = G) := by show _ = _; simp [uniG, uniNew, hx]
      have HH := Lib.hid h
      clear h1 h2 hx hM h
      go_enter Try.func11, Try.ntmps11
      go_wp2_with fail
      go_quiet (first | (go_at_call 37; exact Calls.quiet_of_same (CB.out _ _ _ (by assumption))))
      go_wp2_with fail
      go_ret2
      exact ⟨by rw [HR.out]; rfl, by rw [HG.out]; exact Next.same HH.out (hU.drewN _)⟩
  · have t1 : decide (0 ≤ s.l ∧ s.l < G.L.length) = false := decide_eq_false h1
    have HR : Hid (uniRet G s = .tuple #[.bool false, .int .i64 1]) := by
      show _ = _
      have : uniOk G s = false := by simp only [uniOk, decide_eq_false_iff_not]; rintro ⟨a, b, _⟩; exact h1 ⟨a, b⟩
      simp [uniRet, uniNew, this]
    have HG : Hid (uniG G s = G) := by
      show _ = _
      have : uniOk G s = false := by simp only [uniOk, decide_eq_false_iff_not]; rintro ⟨a, b, _⟩; exact h1 ⟨a, b⟩
      simp [uniG, uniNew, this]
    clear h1
    go_enter Try.func11, Try.ntmps11
    go_wp2_with fail
    go_quiet (first | (go_at_call 37; exact Calls.quiet_of_same (CB.out _ _ _ (by assumption))))
    go_wp2_with fail
    go_ret2
    exact ⟨by rw [HR.out]; rfl, by rw [HG.out]; exact Next.same h (hU.drewN _)⟩
end Go.Proofs.Ytigambcefdeaoaa

namespace Go.Proofs.Ytigambcefdeaoaa
open Go.RowKit

def fmV (m : ByteArray → Option Nat) : ByteArray → Option Value := fun s => match m s with
  | none => none
  | some j => some (.int .i64 (j : Int))
theorem fmV_set (m : ByteArray → Option Nat) (k : Nat) (s : ByteArray) : (fun x => if x = s then some (Value.int .i64 (k : Int)) else fmV m x) = fmV (fun x => if x = s then some k else m x) := by
  funext x; unfold fmV; by_cases e : x = s <;> simp [e]
theorem zeroInt (w : World) : (zeroValue 3).run Try.prog w = .ok (.int .i64 0) w := by
  have h : (Try.prog.info? 3).bind (·.zero) = some (.int .i64 0) := by kernel_rfl
  cases hi : Try.prog.info? 3 with
  | none => rw [hi] at h; cases h
  | some i => rw [hi] at h; simp at h; simp [zeroValue, typeInfo, hi, h]

/-- One step of rebuilding: nothing to merge, or one merge. -/
def rebG (G : EG) : Option EG := (reb G.c G.L).map fun p => G.merge (cgStep p.1 p.2)

set_option maxRecDepth 100000 in
set_option maxHeartbeats 4000000 in
theorem gRebStep_c (w : World) (ρ : Nat → Role) (gb : Nat) (a : GA) (G : EG) (h : GM w ρ gb a G) (hg : GWf G) (hT : G.T.length ≤ 1000000000) :
    Calls Try.prog 39 #[gp gb] w fun e w' => e = .returned (.bool (rebG G).isSome) ∧ Next w ρ gb w' ((rebG G).getD G) := by
  have hn := hg.wf.small
  have hlv := h.lv.mono (G := (· < w.heap.size)) (fun k hk _ => hk)
  have c0 := h.c0
  have H := Lib.hid h
  have HG := Lib.hid hg
  have hmm := @run_makeMap Try.prog
  have hgb := h.blk.lt
  clear h hg
  generalize a.l = lA at *
  generalize a.lc = lc at *
  unfold gp
  obtain ⟨n, Hn⟩ := nm G.L.length
  rw [Hn.out] at hn c0
  go_enter Try.func39, Try.ntmps39
  go_wp2_with fail
  go_loopg [4, 5, 6, 7, 8, 15] n (fun g _ _ _ _ _ iv wr => ∃ j : Nat, Hid (g = n - j) ∧ j ≤ n ∧ iv = .int .i64 j ∧ Upd Non w wr ∧ SMap wr w.heap.size (fmV (fm G.c G.L j)) ∧ Hid (∀ q, q < j → rebAt G.c G.L q = none))
  case atStart => exact ⟨0, rfl, by omega, rfl, Upd.refl.alloc _, SMap.new w, fun q hq => by omega⟩
  case round =>
    obtain ⟨j, Hg, hj, rfl, hu, hsm, Hal⟩ := hrel
    by_cases hlt : j < n
    · have hjL : j < G.L.length := by rw [Hn.out]; exact hlt
      obtain ⟨lb, lo, rfl, hFl, hlb, h1, h2, KA, kc, h3, hkc, hki⟩ := (hlv.upd hu (fun _ _ _ f => f)).at_ hjL
      have hok := HG.out.wf.kids j hjL
      have HCK : Hid (ck G.c (G.L.getD j nd0) = keyE G.L[j].op G.L[j].imm (ckids G.c G.L[j].kids)) := by show _ = _; rw [getD_of hjL]; rfl
      have HFF := Lib.hid (HG.out.fm_first hjL)
      have hok2 : okKids G.L.length G.L[j].kids = true := okKids_mono hok (by omega)
      obtain ⟨op, e1⟩ : ∃ op, G.L[j].op = op := ⟨_, rfl⟩
      obtain ⟨imm, e2⟩ : ∃ imm, G.L[j].imm = imm := ⟨_, rfl⟩
      obtain ⟨kids, e3⟩ : ∃ kids, G.L[j].kids = kids := ⟨_, rfl⟩
      rw [e1] at h1 HCK
      rw [e2] at h2 HCK
      rw [e3] at h3 hkc hki HCK hok2
      have hkl : kids.length ≤ 100000000000 := by have := HG.out.klen hjL; rw [e3] at this; omega
      clear e1 e2 e3 hok
      have uA : Upd Non wr (wr.alloc (.cells #[.int .i64 op, .int .i64 imm, .slice KA kids.length kc] 24)) := Upd.refl.alloc _
      have C1 := Lib.hid (canonKey_c (wr.alloc (.cells #[.int .i64 op, .int .i64 imm, .slice KA kids.length kc] 24)) ρ gb a G ((H.out.non hu).non uA) op imm kids KA kc (· < w.heap.size) (hki.upd uA (fun _ _ _ f => f)) hkl hok2)
      rw [← HCK.out] at C1
      unfold gp at C1
      obtain ⟨s, Hs⟩ := nm (ck G.c (G.L.getD j nd0))
      have HNW := Lib.hid (fm_new (c := G.c) (L := G.L) (j := j))
      have HOL := Lib.hid (fun i => fm_old (c := G.c) (L := G.L) (j := j) (i := i))
      rw [Hs.out] at C1 HFF HNW HOL
      have HRA : Hid (rebAt G.c G.L j = (fm G.c G.L j s).bind fun i => if G.c i = G.c j then none else some (i, j)) := by show _ = _; unfold rebAt; rw [HFF.out]
      go_wp2_with fail
      refine C1.out.mono ?_
      rintro e w1 ⟨rfl, hu1⟩
      have hu2 : Upd Non w w1 := (hu.alloc _).then_non hu1
      have hsm1 := (hsm.upd uA (fun f => f)).upd hu1 (fun f => f)
      have hlook := hsm1.look Try.underlying70 Try.underlying9 (zeroInt _) s
      clear C1 h1 h2 h3 hsm HCK
      cases hf : fm G.c G.L j s with
      | none =>
        have hv : fmV (fm G.c G.L j) s = none := by simp [fmV, hf]
        rw [hv] at hlook
        simp only [Option.getD_none, Option.isSome_none] at hlook
        obtain ⟨w2, hst, hsm2, hu3⟩ := hsm1.store Try.underlying70 Try.underlying9 s (.int .i64 (j : Int))
        rw [fmV_set, ← HNW.out hf] at hsm2
        have hu4 : Upd Non w w2 := hu2.trans hu3 (fun i hi e => by omega)
        have HA2 : Hid (∀ q, q < j + 1 → rebAt G.c G.L q = none) := fun q hq => by
          by_cases e : q = j
          · subst e; rw [HRA.out, hf]; rfl
          · exact Hal.out q (by omega)
        clear hf hv
        go_wp2_with fail
        go_roundg (n - (j + 1))
        case measure => rw [Hg.out]; omega
        case rel => exact ⟨j + 1, rfl, by omega, by go_num, hu4, hsm2, HA2⟩
      | some i =>
        have hv : fmV (fm G.c G.L j) s = some (.int .i64 (i : Int)) := by simp [fmV, hf]
        rw [hv] at hlook
        simp only [Option.getD_some, Option.isSome_some] at hlook
        have hij := fm_lt hf
        have hiL : i < G.L.length := by omega
        have hM1 := H.out.non hu2
        have c2 := hM1.c2
        obtain ⟨fb, ef, hfb, hfi⟩ := hM1.fat hiL
        obtain ⟨fb', ef', _, hfj⟩ := hM1.fat hjL
        obtain rfl : fb = fb' := by rw [ef] at ef'; injection ef' with e; injection e
        rw [ef, Hn.out] at c2
        have hin : i < n := by omega
        by_cases hc : G.c i = G.c j
        · have HA2 : Hid (∀ q, q < j + 1 → rebAt G.c G.L q = none) := fun q hq => by
            by_cases e : q = j
            · subst e; rw [HRA.out, hf]; simp [hc]
            · exact Hal.out q (by omega)
          rw [← HOL.out i hf] at hsm1
          rw [← hc] at hfj
          generalize G.c i = z at *
          have hb4 : ((z : Int) != (z : Int)) = false := by simp
          clear hf hv hc hM1
          go_wp2_with fail
          go_quiet (fail)
          go_wp2_with fail
          go_roundg (n - (j + 1))
          case measure => rw [Hg.out]; omega
          case rel => exact ⟨j + 1, rfl, by omega, by go_num, hu2.drewN _, hsm1, HA2⟩
        · have hr : reb G.c G.L = some (i, j) := reb_at hjL Hal.out (by rw [HRA.out, hf]; simp [hc])
          have HR : Hid ((rebG G) = some (G.merge (cgStep i j))) := by show _ = _; unfold rebG; rw [hr]; rfl
          have CM := Lib.hid (fun w2 (u : Upd Non w1 w2) => gMerge_c w2 ρ gb a G (hM1.non u) HG.out.wf.small hT HG.out.wf.named (cgStep i j) i j rfl rfl hiL hjL hc none none 0 0 Non .nil .nil (fun _ _ f => f.elim) (by simp [cgStep]) (by simp [cgStep]))
          unfold gp at CM
          have hb4 : ((G.c i : Int) != (G.c j : Int)) = true := by simp; omega
          generalize G.c i = z at *
          generalize G.c j = z2 at *
          clear hf hv hc hM1 hr
          go_wp2_with fail
          go_quiet (fail)
          go_wp2_with fail
          refine (CM.out _ (Upd.refl.drewN _)).mono ?_
          rintro e w3 ⟨rfl, hN⟩
          go_wp2_with fail
          go_ret
          rw [HR.out]
          exact ⟨rfl, Next.after (hu2.drewN _) hN⟩
    · obtain rfl : n = j := by omega
      have hr : reb G.c G.L = none := reb_no (by rw [Hn.out]; exact Hal.out)
      have HR : Hid ((rebG G) = none) := by show _ = _; unfold rebG; rw [hr]; rfl
      clear hr
      go_wp2_with fail
      go_ret
      rw [HR.out]
      exact ⟨rfl, Next.same H.out hu⟩
end Go.Proofs.Ytigambcefdeaoaa

namespace Go.Proofs.Ytigambcefdeaoaa
open Go.RowKit

theorem GWf.merge {G : EG} (h : GWf G) {s : Stp} (hl : s.l.toNat < G.L.length) (hr : s.r.toNat < G.L.length) : GWf (G.merge s) := ⟨h.wf.merge hl hr, h.srt⟩
theorem GWf.rebMerge {G : EG} (h : GWf G) {i j : Nat} (hr : reb G.c G.L = some (i, j)) : GWf (G.merge (cgStep i j)) ∧ roots G.L.length (joinc G.c i j) < roots G.L.length G.c := by
  obtain ⟨h1, h2, h3, h4⟩ := reb_some hr
  exact ⟨h.merge (by simp [cgStep]; omega) (by simp [cgStep]; omega), roots_join h.wf.named (by omega) h1 h4⟩
theorem roots_le (n : Nat) (c : Nat → Nat) : roots n c ≤ n := by
  unfold roots
  exact Nat.le_trans (List.length_filter_le _ _) (by simp)

set_option maxHeartbeats 1000000 in
theorem gRebuild_c (w : World) (ρ : Nat → Role) (gb : Nat) (a : GA) (G : EG) (h : GM w ρ gb a G) (hg : GWf G) (hT : G.T.length ≤ 900000000) :
    Calls Try.prog 13 #[gp gb] w fun e w' => ∃ n G', Reb G n G' ∧ n ≤ 2000 ∧ e = .returned (.int .i64 (n : Int)) ∧ Next w ρ gb w' G' := by
  have hsm := hg.wf.small
  have hrl := roots_le G.L.length G.c
  have H := Lib.hid h
  have HG := Lib.hid hg
  unfold gp
  clear h hg
  go_enter Try.func13, Try.ntmps13
  go_wp2_with fail
  go_loopg [3] (roots G.L.length G.c) (fun g v wr => ∃ (m : Nat) (Gm : EG), Hid (g = roots Gm.L.length Gm.c) ∧ v = .int .i64 m ∧ m + roots Gm.L.length Gm.c ≤ 2000 ∧ Hid (GWf Gm) ∧ Gm.T.length ≤ 900000000 + m ∧ Hid (Next w ρ gb wr Gm) ∧ Hid (∀ n G', Reb Gm n G' → Reb G (m + n) G'))
  case atStart => exact ⟨0, G, rfl, rfl, by omega, HG, by omega, Next.same H.out Upd.refl, fun n G' hr => by rw [Nat.zero_add]; exact hr⟩
  case round =>
    obtain ⟨m, Gm, Hg, rfl, hm, HGm, hTm, HN, HR⟩ := hrel
    obtain ⟨ρ', a', hM, hu, he⟩ := HN.out
    have C1 := Lib.hid (gRebStep_c wr ρ' gb a' Gm hM HGm.out (by omega))
    unfold gp at C1
    cases hr : reb Gm.c Gm.L with
    | none =>
      have e1 : rebG Gm = none := by unfold rebG; rw [hr]; rfl
      rw [e1] at C1
      have hd := HR.out 0 Gm (.done hr)
      clear e1 hr hM
      go_wp2_with fail
      refine C1.out.mono ?_
      rintro e w1 ⟨rfl, hN⟩
      go_wp2_with fail
      go_ret
      exact ⟨m, Gm, hd, by omega, rfl, Next.trans hu he hN⟩
    | some p =>
      obtain ⟨i, j⟩ := p
      have e1 : rebG Gm = some (Gm.merge (cgStep i j)) := by unfold rebG; rw [hr]; rfl
      rw [e1] at C1
      obtain ⟨h1, h2⟩ := HGm.out.rebMerge hr
      have HR2 : Hid (∀ n G', Reb (Gm.merge (cgStep i j)) n G' → Reb G (m + 1 + n) G') := fun n G' hq => by
        have := HR.out (n + 1) G' (.step hr hq)
        rwa [show m + (n + 1) = m + 1 + n by omega] at this
      have hTl : (Gm.merge (cgStep i j)).T.length = Gm.T.length + 1 := by simp [EG.merge]
      have hrt : roots (Gm.merge (cgStep i j)).L.length (Gm.merge (cgStep i j)).c = roots Gm.L.length (joinc Gm.c i j) := by simp [EG.merge, cgStep]
      clear e1 hr hM
      go_wp2_with fail
      refine C1.out.mono ?_
      rintro e w1 ⟨rfl, hN⟩
      go_wp2_with fail
      go_roundg (roots (Gm.merge (cgStep i j)).L.length (Gm.merge (cgStep i j)).c)
      case measure => rw [Hg.out, hrt]; omega
      case rel => exact ⟨m + 1, _, rfl, by go_num, by rw [hrt]; omega, h1, by rw [hTl]; omega, Next.trans hu he hN, HR2⟩
end Go.Proofs.Ytigambcefdeaoaa
