/-
  CongruenceMonotonic, called at lists of words, returns true and turns nothing old.
-/
import Derived.Test.YtlehiklgbladoaaL11P
import Derived.Test.YtlehiklgbladoaaCEx
namespace Go.Proofs.Ytlehiklgbladoaa
open Go.RowKit

theorem PairsV.take {w : World} {F : Nat → Prop} {A : Option Addr} {ps : List (Int × Int)} (h : PairsV w F A ps) (z : Nat) : PairsV w F A (ps.take z) := by
  rcases h with rfl | ⟨b, off, e, hF, hc⟩
  · exact .inl (by simp)
  · refine .inr ⟨b, off, e, hF, fun i hi => ?_⟩
    have hi' : i < ps.length := by simp at hi; omega
    simpa using hc i hi'
theorem pcells_two (ps : List (Int × Int)) (p q : Int × Int) : pcells (ps ++ [p, q]) = pcells ps ++ [.int .i64 p.1, .int .i64 p.2, .int .i64 q.1, .int .i64 q.2] := by simp [pcells]
theorem Ints.all_ {w : World} {F : Nat → Prop} {A : Option Addr} {xs : List Int} (h : Ints w F A xs) (hne : 0 < xs.length) : ∃ b off, A = some ⟨b, off, none⟩ ∧ F b ∧ b < w.heap.size ∧ ∀ j (hj : j < xs.length), w.cell? ⟨b, off + j, none⟩ = some (.int .i64 xs[j]) := by
  rcases h with h | ⟨b, off, e, hF, hc⟩
  · have : xs = [] := by simpa using h
    subst this; simp at hne
  · refine ⟨b, off, e, hF, World.block_lt_of_cell? _ _ (hc 0 (by simpa using hne)), fun j hj => ?_⟩
    have := hc j (by simpa using hj)
    simpa using this
theorem clL_at {w : World} {F : Nat → Prop} {A : Option Addr} {L : List Nd} {c : Nat → Nat} (h : Ints w F A (clL L c)) (hne : 0 < L.length) : ∃ b off, A = some ⟨b, off, none⟩ ∧ F b ∧ b < w.heap.size ∧ ∀ j, j < L.length → w.cell? ⟨b, off + j, none⟩ = some (.int .i64 (c j : Int)) := by
  obtain ⟨b, off, e, hF, hb, hc⟩ := h.all_ (by rw [clL_len]; exact hne)
  exact ⟨b, off, e, hF, hb, fun j hj => by have := hc j (by rw [clL_len]; exact hj); rwa [clL_get] at this⟩
theorem getD_of {α : Type} {l : List α} {i : Nat} {d : α} (h : i < l.length) : l.getD i d = l[i] := by simp [List.getD, h]

set_option maxHeartbeats 4000000 in
set_option maxRecDepth 100000 in
theorem cMono_c (w : World) (F : Nat → Prop) (LA MA : Option Addr) (lc mc : Nat) (l m : List Int) (cut : Int) (hl : Ints w F LA l) (hm : Ints w F MA m) (hli : ∀ x ∈ l, I64 x) (hll : l.length ≤ 1000000000000000) (hml : m.length ≤ 1000000000000000) :
    Calls Try.prog 6 #[.slice LA l.length lc, .slice MA m.length mc, .int .i64 cut] w fun e w' => e = .returned (.bool true) ∧ Upd Non w w' := by
  have C0 := Lib.hid (nodes_c w F LA lc l false hl hli hll)
  have hg := nodesF_good false l hli
  have hlen := nodesF_len false l
  obtain ⟨L, HL⟩ := nm (nodesF false l)
  rw [HL.out] at C0 hg hlen
  have hpos := hg.pos
  have Hok := Lib.hid hg.ok
  clear hg hl hli
  go_enter Try.func6, Try.ntmps6
  go_wp2_with fail
  refine C0.out.mono ?_
  rintro e w1 ⟨A, c, rfl, hno, hA, hu1⟩
  clear C0
  have C1 := Lib.hid (pairs_c w1 F MA mc L.length m (hm.upd hu1 (fun _ _ _ f => f)) hml (by omega))
  have hpl := pairsF_len m L.length
  obtain ⟨ps, Hps⟩ := nm (pairsF m L.length)
  rw [Hps.out] at C1 hpl
  go_wp2_with fail
  refine C1.out.mono ?_
  rintro e w2 ⟨PA, pc, rfl, hpo, hPA, hu2⟩
  clear C1
  have hLV := (hno.view (F := fun _ => True) (fun _ _ => trivial) (fun _ _ _ => trivial)).upd hu2 (fun _ _ _ f => f)
  have hPV := (Own.pairs hpo).mono (G := fun _ => True) (fun _ _ _ => trivial)
  have C2 := Lib.hid (pick_c cut (ps.length + 1) w2 (by omega) (by omega))
  obtain ⟨z, Hz⟩ : ∃ z : Nat, Hid (cut % ((ps.length : Int) + 1) = z) := ⟨(cut % ((ps.length : Int) + 1)).toNat, by
    have := Int.emod_nonneg cut (show ((ps.length : Int) + 1) ≠ 0 by omega)
    show _ = _; omega⟩
  have hz : z ≤ ps.length := by
    have := Int.emod_lt_of_pos cut (show (0 : Int) < (ps.length : Int) + 1 by omega)
    have := Hz.out
    omega
  rw [Hz.out] at C2
  go_wp2_with fail
  refine C2.out.mono ?_
  rintro e w3 ⟨rfl, rfl⟩
  clear C2
  have hpc : ps.length ≤ pc := by
    rcases hpo.cases with ⟨_, h0, h1, _⟩ | ⟨_, _, _, _, h, _⟩ <;> omega
  go_wp2_with fail
  have C3 := Lib.hid (classes_c w2 (fun _ => True) A PA c pc L (ps.take z) hLV (hPV.take z) (by omega) (by simp; omega) Hok.out)
  have hzl : (ps.take z).length = z := by simp; omega
  rw [hzl] at C3
  clear hzl
  refine C3.out.mono ?_
  rintro e w3 ⟨c1, A1, cc1, hcl1, rfl, hcc1, hi1, hu3⟩
  have hLV3 := hLV.upd hu3 (fun _ _ _ f => f)
  have hPV3 := hPV.upd hu3 (fun _ _ _ f => f)
  have hU3 := (hu1.then_non hu2).then_non hu3
  have C4 := Lib.hid (classes_c w3 (fun _ => True) A PA c pc L ps hLV3 hPV3 (by omega) (by omega) Hok.out)
  go_wp2_with fail
  refine C4.out.mono ?_
  rintro e w4 ⟨c2, A2, cc2, hcl2, rfl, hcc2, hi2, hu4⟩
  have hLV4 := hLV3.upd hu4 (fun _ _ _ f => f)
  have hPV4 := hPV3.upd hu4 (fun _ _ _ f => f)
  have hU4 := hU3.then_non hu4
  have hi14 := hi1.upd hu4 (fun _ _ _ f => f)
  clear C3 C4 hi1 hLV3 hPV3 hLV hPV hu3 hu4 hu1 hu2 hpo hU3 hno hm hcc1 hcc2
  have e0 : wrap64 ((ps.length : Int) - 1) = (ps.length : Int) - 1 := wrap64_of (by unfold I64; omega)
  go_wp2_with fail
  clear e0
  go_loopg [11, 12] ps.length (fun g v i wr => ∃ (k bc : Nat) (B : Option Addr), Hid (g = ps.length - k) ∧ k ≤ ps.length ∧ i = .int .i64 ((ps.length : Int) - 1 - (k : Int)) ∧ v = .slice B (2 * k) bc ∧ Own wr 28 2 B (2 * k) bc (pcells (backTo ps L.length k)) ∧ Hid (∀ j, At B j → w4.heap.size ≤ j) ∧ Upd Non w4 wr)
  case atStart => exact ⟨0, 0, none, rfl, by omega, by simp, rfl, Own.none_, fun j hj => (At.none_ hj).elim, Upd.refl⟩
  case round =>
    obtain ⟨k, bc, B, Hg, hk, rfl, rfl, ho, HB, hu⟩ := hrel
    by_cases hlt : k < ps.length
    · obtain ⟨q, Hq, hq⟩ : ∃ q : Nat, Hid (q = ps.length - 1 - k) ∧ (ps.length : Int) - 1 - (k : Int) = (q : Int) := ⟨ps.length - 1 - k, rfl, by omega⟩
      rw [hq]
      clear hq
      have hql : q < ps.length := by have := Hq.out; omega
      obtain ⟨pb, po, rfl, _, hplt, c0', c1'⟩ := hPV4.at_ hql
      have c0 := cell_upd c0' hu (fun f => f)
      have c1 := cell_upd c1' hu (fun f => f)
      have HNB : Hid (¬ At B pb) := fun h => by have := HB.out pb h; omega
      have HS := Lib.hid (backTo_succ ps L.length k)
      rw [← Hq.out, getD_of hql] at HS
      clear c0' c1'
      generalize ps[q] = pq at *
      obtain ⟨p1, p2⟩ := pq
      dsimp only at c0 c1 HS
      have hn : L.length ≠ 0 := by omega
      have hn2 : ((L.length : Int) == 0) = false := by rw [beq_eq_false_iff_ne]; omega
      go_wp2_with fail
      go_region_held3 (fun w' => w'.cell? ⟨pb, po + q * 2, none⟩ = some (.int .i64 p1) ∧ w'.cell? ⟨pb, po + q * 2 + 1, none⟩ = some (.int .i64 p2))
        (first | exact ⟨cell_upd c0 (Upd.refl (S := Non)).drew (fun f => f), cell_upd c1 (Upd.refl (S := Non)).drew (fun f => f)⟩ | exact ⟨cell_upd c0 ((Upd.refl (S := Non)).drew.alloc _) (fun f => f), cell_upd c1 ((Upd.refl (S := Non)).drew.alloc _) (fun f => f)⟩ | exact ⟨k0, k1⟩ | go_keep)
        (first
          | (refine step_app rfl rfl T_pairs rfl ((show Own wr.drew _ _ _ _ _ _ from ho).alloc _) rfl (Sl.new _ _ _) rfl (by simp [Value.oneCell']) (by simp only [maxLen]; omega) (by omega) ?_; intro A4 c4 w5 ho4 hu5 hat4; have k0 := cell_upd (cell_upd c0 ((Upd.refl (S := Non)).drew.alloc _) (fun f => f)) hu5 (HNB.out); have k1 := cell_upd (cell_upd c1 ((Upd.refl (S := Non)).drew.alloc _) (fun f => f)) hu5 (HNB.out)))
      go_wp2_with fail
      go_roundg (ps.length - (k + 1))
      case measure => rw [Hg.out]; omega
      case rel =>
        refine ⟨k + 1, c4, A4, rfl, by omega, ?_, ?_, ?_, fun j hj => ?_, ?_⟩
        · have := Hq.out
          exact congrArg (Value.int .i64) (by omega)
        · rfl
        · rw [HS.out, pcells_two]
          exact ho4
        · rcases hat4 j hj with h | h
          · exact HB.out j h
          · have := hu.size; simp at h; omega
        · exact (hu.drew.alloc _).trans hu5 (fun i hi h => by have := HB.out i h; omega)
    · obtain rfl : k = ps.length := by omega
      have hq : (ps.length : Int) - 1 - (ps.length : Int) = -1 := by omega
      rw [hq]
      have HBL := Lib.hid (backTo_len ps L.length ps.length)
      have hi25 := hi2.upd hu (fun _ _ _ f => f)
      have hi15 := hi14.upd hu (fun _ _ _ f => f)
      have hLV5 := hLV4.upd hu (fun _ _ _ f => f)
      have hU5 := hU4.then_non hu
      clear hq hi2 hi14 hLV4 hPV4 hU4 hu
      have hL0 : 0 < L.length := by omega
      obtain ⟨b1, o1, rfl, _, _, hc1⟩ := clL_at (L := L) (c := c1) hi15 hL0
      obtain ⟨b2, o2, rfl, hb2, _, hc2⟩ := clL_at (L := L) (c := c2) hi25 hL0
      have HC1 := Lib.hid hc1
      have HC2 := Lib.hid hc2
      clear hc1 hc2 hi15
      go_wp2_with fail
      go_loopg [13, 77, 14, 82] L.length (fun g _ i _ _ wx => ∃ (k n : Nat), Hid (g = L.length - k) ∧ k ≤ L.length ∧ i = .int .i64 k ∧ wx = wr.drewN n)
      case atStart => exact ⟨0, 0, rfl, by omega, rfl, rfl⟩
      case round =>
        obtain ⟨k, n, Hg, hk, rfl, rfl⟩ := hrel
        by_cases hlt : k < L.length
        · go_wp2_with fail
          obtain ⟨wo, rfl⟩ : ∃ wo : World, wo = wr.drewN n := ⟨_, rfl⟩
          go_loopg [14, 82] L.length (fun g _ i wx => ∃ (j n : Nat), Hid (g = L.length - j) ∧ j ≤ L.length ∧ i = .int .i64 j ∧ wx = wr.drewN n)
          case atStart => exact ⟨0, n, rfl, by omega, rfl, rfl⟩
          case round =>
            obtain ⟨j, n2, Hg2, hj, rfl, rfl⟩ := hrel
            by_cases hlt2 : j < L.length
            · have f1 := HC1.out k hlt
              have f2 := HC1.out j hlt2
              have f3 := HC2.out k hlt
              have f4 := HC2.out j hlt2
              have HM := Lib.hid (fun h => congrArg (fun n : Nat => (n : Int)) (hcl1.mono hcl2 (fun p hp => List.mem_of_mem_take hp) hlt hlt2 h))
              by_cases he : c1 k = c1 j
              · have HM2 := Lib.hid (HM.out he)
                rw [he] at f1
                rw [HM2.out] at f3
                clear he HM HM2
                generalize ((c1 j : Nat) : Int) = x1 at *
                generalize ((c2 j : Nat) : Int) = x2 at *
                go_wp2_with fail
                go_quiet (fail)
                go_wp2_with fail
                go_roundg (L.length - (j + 1))
                case measure => rw [Hg2.out]; omega
                case rel => exact ⟨j + 1, _, rfl, by omega, by go_num, rfl⟩
              · have hb : (((c1 k : Nat) : Int) == ((c1 j : Nat) : Int)) = false := by rw [beq_eq_false_iff_ne]; omega
                clear he HM
                generalize ((c1 j : Nat) : Int) = x1 at *
                generalize ((c1 k : Nat) : Int) = x2 at *
                go_wp2_with fail
                go_quiet (fail)
                go_wp2_with fail
                go_roundg (L.length - (j + 1))
                case measure => rw [Hg2.out]; omega
                case rel => exact ⟨j + 1, _, rfl, by omega, by go_num, rfl⟩
            · obtain rfl : j = L.length := by omega
              go_wp2_with fail
              go_roundg (L.length - (k + 1))
              case measure => rw [Hg.out]; omega
              case rel => exact ⟨k + 1, n2, rfl, by omega, by go_num, rfl⟩
        · obtain rfl : k = L.length := by omega
          go_wp2_with fail
          have hPB := ((Own.pairs ho).mono (G := fun _ => True) (fun _ _ _ => trivial)).upd ((Upd.refl (S := Non)).drewN n) (fun _ _ _ f => f)
          have C5 := Lib.hid (classes_c (wr.drewN n) (fun _ => True) A B c bc L (backTo ps L.length ps.length) (hLV5.upd ((Upd.refl (S := Non)).drewN n) (fun _ _ _ f => f)) hPB (by omega) (by rw [HBL.out]; omega) Hok.out)
          rw [HBL.out] at C5
          refine C5.out.mono ?_
          rintro e w6 ⟨c3, A3, cc3, hcl3, rfl, hcc3, hi3, hu6⟩
          have hi26 := (hi25.upd ((Upd.refl (S := Non)).drewN n) (fun _ _ _ f => f)).upd hu6 (fun _ _ _ f => f)
          have HE := Lib.hid (hcl3.same (hcl2.back L.length))
          have hU6 := (hU5.drewN n).then_non hu6
          have C6 := Lib.hid (sameInts_c w6 _ _ A3 (some ⟨b2, o2, none⟩) cc3 cc2 (clL L c3) (clL L c2) hi3 hi26 (by rw [clL_len]; omega))
          rw [clL_len, clL_len, HE.out, decide_eq_true rfl] at C6
          go_wp2_with fail
          refine C6.out.mono ?_
          rintro e w7 ⟨rfl, n7, rfl⟩
          go_wp2_with fail
          refine (cExamples_c _).mono ?_
          rintro e w8 ⟨rfl, hu8⟩
          go_wp2_with fail
          go_ret
          exact ⟨rfl, (hU6.drewN _).then_non hu8⟩
end Go.Proofs.Ytlehiklgbladoaa
