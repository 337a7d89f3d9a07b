/-
  CongruenceReference, called at nodes, pairs, lists of words and two words, returns true and turns nothing old.
-/
import Derived.Test.YtlehiklgbladoaaMutC
import Derived.Test.YtlehiklgbladoaaRCl
namespace Go.Proofs.Ytlehiklgbladoaa
open Go.RowKit

theorem NodesV.take {w : World} {F : Nat → Prop} {A : Option Addr} {L : List Nd} (h : NodesV w F A L) (z : Nat) : NodesV w F A (L.take z) := by
  rcases h with rfl | ⟨b, off, e, hF, hc⟩
  · exact .inl (by simp)
  · refine .inr ⟨b, off, e, hF, fun i hi => ?_⟩
    have hi' : i < L.length := by simp at hi; omega
    simpa using hc i hi'

set_option maxHeartbeats 4000000 in
set_option maxRecDepth 100000 in
theorem cRef_c (w : World) (F : Nat → Prop) (XA SA LA MA : Option Addr) (xc sc lc mc : Nat) (X : List Nd) (ss : List (Int × Int)) (l m : List Int) (how at_ : Int) (hX : NodesV w F XA X) (hxc : X.length ≤ xc) (hXo : ∀ nd ∈ X, NdOk nd) (hS : PairsV w F SA ss) (hsl : ss.length ≤ 140737488355328)
    (hl : Ints w F LA l) (hm : Ints w F MA m) (hli : ∀ x ∈ l, I64 x) (hll : l.length ≤ 1000000000000000) (hml : m.length ≤ 1000000000000000) (hh : I64 how) (ha : I64 at_) (hxm : X.length ≤ 9000000000000000000) :
    Calls Try.prog 4 #[.slice XA X.length xc, .slice SA ss.length sc, .slice LA l.length lc, .slice MA m.length mc, .int .i64 how, .int .i64 at_] w fun e w' => e = .returned (.bool true) ∧ Upd Non w w' := by
  obtain ⟨n, Hn⟩ : ∃ n : Nat, Hid (n = min X.length 20) := ⟨_, rfl⟩
  have hn20 : n ≤ 20 := by have := Hn.out; omega
  have hnX : n ≤ X.length := by have := Hn.out; omega
  obtain ⟨Y, HY⟩ := nm (X.take n)
  have hYV := hX.take n
  have hYl : (X.take n).length = n := by simp; omega
  have HYo : Hid (∀ nd ∈ X.take n, NdOk nd) := fun nd h => hXo nd (List.mem_of_mem_take h)
  rw [HY.out] at hYV hYl HYo
  have C1 := Lib.hid (classes_c w F XA SA xc sc Y ss hYV hS (by omega) hsl HYo.out)
  have C2 := Lib.hid (fun (W : World) (hu : Upd Non w W) => rclasses_c W F XA SA xc sc Y ss (hYV.upd hu (fun _ _ _ f => f)) (hS.upd hu (fun _ _ _ f => f)) (by omega) (by omega) HYo.out)
  rw [hYl] at C1 C2
  have HS := Lib.hid hS
  have Hli := Lib.hid hli
  clear hX hXo hS hli
  go_enter Try.func4, Try.ntmps4
  go_upto_region 1 with fail
  go_cut [13] (fun s wx => s = .slice XA n xc ∧ w = wx)
  case first =>
    by_cases hc : X.length ≤ 20
    · obtain rfl : n = X.length := by have := Hn.out; omega
      go_wp2_with fail
      go_meet
      exact ⟨rfl, rfl⟩
    · obtain rfl : n = 20 := by have := Hn.out; omega
      go_wp2_with fail
      go_meet
      exact ⟨rfl, rfl⟩
  case rest =>
    obtain ⟨rfl, rfl⟩ := hcut
    go_wp2_with fail
    refine C1.out.mono ?_
    rintro e w1 ⟨c1, A1, cc1, hcl1, rfl, _, hi1, hu1⟩
    rw [hYl]
    go_wp2_with fail
    refine (C2.out w1 hu1).mono ?_
    rintro e w2 ⟨c2, A2, cc2, hcl2, rfl, _, hi2, hu2⟩
    rw [hYl]
    have C3 := Lib.hid (sameInts_c w2 _ _ A1 A2 cc1 cc2 (clL Y c1) (clL Y c2) (hi1.upd hu2 (fun _ _ _ f => f)) hi2 (by rw [clL_len]; omega))
    rw [clL_len, clL_len, hcl1.same hcl2, decide_eq_true rfl, hYl] at C3
    go_wp2_with fail
    refine C3.out.mono ?_
    rintro e w3 ⟨rfl, n3, rfl⟩
    have hU3 := (hu1.then_non hu2).drewN n3
    obtain ⟨w3, Hw3⟩ := nm (w2.drewN n3)
    rw [Hw3.out] at hU3
    have hYV3 := hYV.upd hU3 (fun _ _ _ f => f)
    have C4 := Lib.hid (fun (W : World) (hu : Upd Non w W) => nodes_c W F LA lc l false (hl.upd hu (fun _ _ _ f => f)) Hli.out hll)
    have hg := nodesF_good false l Hli.out
    have hlen := nodesF_len false l
    have hsm := nodesTo_small false l 14
    obtain ⟨L, HL⟩ := nm (nodesF false l)
    rw [HL.out] at C4 hg hlen
    rw [show nodesTo false l 14 = L from HL.out] at hsm
    have Hok := Lib.hid hg.ok
    have Hsm := Lib.hid hsm
    clear C1 C2 C3 hi1 hi2 hcl1 hcl2 hu1 hu2 hg hsm hYV
    rw [Hw3.out]
    go_wp2_with fail
    refine (C4.out w3 hU3).mono ?_
    rintro e w4 ⟨A4, c4, rfl, hno4, hA4, hu4⟩
    have hU4 := hU3.then_non hu4
    go_wp2_with fail
    refine (C4.out w4 hU4).mono ?_
    rintro e w5 ⟨A5, c5, rfl, hno5, hA5, hu5⟩
    have hU5 := hU4.then_non hu5
    have hV4 := (hno4.view (F := fun _ => True) (fun _ _ => trivial) (fun _ _ _ => trivial)).upd hu5 (fun _ _ _ f => f)
    have hV5 := hno5.view (F := fun _ => True) (fun _ _ => trivial) (fun _ _ _ => trivial)
    have C5 := Lib.hid (mutate_c w5 _ A5 c5 L how at_ hV5 (by omega) (fun nd h => by have := Hsm.out nd h; omega) Hok.out hh ha)
    go_wp2_with fail
    refine C5.out.mono ?_
    rintro e w6 ⟨A6, c6, L6, rfl, hV6, hl6, hok6, hu6⟩
    have hU6 := hU5.then_non hu6
    have hV46 := hV4.upd hu6 (fun _ _ _ f => f)
    have hYV6 := ((hYV3.upd hu4 (fun _ _ _ f => f)).upd hu5 (fun _ _ _ f => f)).upd hu6 (fun _ _ _ f => f)
    have Hok6 := Lib.hid hok6
    clear C4 C5 hno4 hno5 hV5 hV4 hYV3 hu4 hu5 hu6 hU3 hU4 hU5 hA4 hA5 hok6
    go_wp2_with fail
    have hb := Blk.new w6 25 #[.slice XA n xc, .slice A4 L.length c4, .slice A6 L6.length c6]
    have hU7 := hU6.alloc (.cells #[.slice XA n xc, .slice A4 L.length c4, .slice A6 L6.length c6] 25)
    have Hv : Hid (∀ j, j < 3 → ∃ A c Z, (#[Value.slice XA n xc, .slice A4 L.length c4, .slice A6 L6.length c6] : Array Value)[j]? = some (.slice A (List.length Z) c) ∧ NodesV (w6.alloc (.cells #[.slice XA n xc, .slice A4 L.length c4, .slice A6 L6.length c6] 25)) (fun _ => True) A Z ∧ Z.length ≤ 20 ∧ ∀ nd ∈ Z, NdOk nd) := fun j hj => by
      match j, hj with
      | 0, _ => exact ⟨XA, xc, Y, by rw [hYl]; rfl, (hYV6.mono (fun _ _ _ => trivial)).upd (Upd.refl.alloc _ (S := Non)) (fun _ _ _ f => f), by omega, HYo.out⟩
      | 1, _ => exact ⟨A4, c4, L, rfl, hV46.upd (Upd.refl.alloc _ (S := Non)) (fun _ _ _ f => f), by omega, Hok.out⟩
      | 2, _ => exact ⟨A6, c6, L6, rfl, hV6.upd (Upd.refl.alloc _ (S := Non)) (fun _ _ _ f => f), by omega, Hok6.out⟩
    obtain ⟨bb, Hbb⟩ := nm w6.heap.size
    obtain ⟨W, HW⟩ := nm (w6.alloc (.cells #[.slice XA n xc, .slice A4 L.length c4, .slice A6 L6.length c6] 25))
    rw [HW.out] at hb hU7 Hv ⊢
    rw [Hbb.out] at hb ⊢
    obtain ⟨cur, Hcur⟩ := nm (#[Value.slice XA n xc, .slice A4 L.length c4, .slice A6 L6.length c6] : Array Value)
    rw [Hcur.out] at hb Hv
    clear hYV6 hV46 hV6 hU6
    go_loopg [40] 3 (fun g i wx => ∃ k : Nat, Hid (g = 3 - k) ∧ k ≤ 3 ∧ i = .int .i64 k ∧ Upd Non W wx)
    case atStart => exact ⟨0, rfl, by omega, rfl, Upd.refl⟩
    case round =>
      obtain ⟨k, Hg, hk, rfl, hu⟩ := hrel
      by_cases hlt : k < 3
      · obtain ⟨A, c, Z, hz1, hz2, hz3, hz4⟩ := Hv.out k hlt
        have hcell := (hb.cell k).trans hz1
        have hcell2 := cell_upd hcell hu (fun f => f)
        have C6 := Lib.hid (pairs_c wr F MA mc Z.length m (hm.upd (hU7.then_non hu) (fun _ _ _ f => f)) hml (by omega))
        have hpl := pairsF_len m Z.length
        obtain ⟨ps, Hps⟩ := nm (pairsF m Z.length)
        rw [Hps.out] at C6 hpl
        have HZ := Lib.hid hz4
        clear hz1 hz4 hcell
        go_wp2_with fail
        refine C6.out.mono ?_
        rintro e w8 ⟨PA, pc, rfl, hpo, hPA, hu8⟩
        have hPV := (Own.pairs hpo).mono (G := fun _ => True) (fun _ _ _ => trivial)
        have hZV := (hz2.upd hu (fun _ _ _ f => f)).upd hu8 (fun _ _ _ f => f)
        have C7 := Lib.hid (classes_c w8 (fun _ => True) A PA c pc Z ps hZV hPV (by omega) (by omega) HZ.out)
        go_wp2_with fail
        refine C7.out.mono ?_
        rintro e w9 ⟨c1, A1, cc1, hcl1, rfl, _, hi1, hu9⟩
        have C8 := Lib.hid (rclasses_c w9 (fun _ => True) A PA c pc Z ps (hZV.upd hu9 (fun _ _ _ f => f)) (hPV.upd hu9 (fun _ _ _ f => f)) (by omega) (by omega) HZ.out)
        go_wp2_with fail
        refine C8.out.mono ?_
        rintro e w10 ⟨c2, A2, cc2, hcl2, rfl, _, hi2, hu10⟩
        have C9 := Lib.hid (sameInts_c w10 _ _ A1 A2 cc1 cc2 (clL Z c1) (clL Z c2) (hi1.upd hu10 (fun _ _ _ f => f)) hi2 (by rw [clL_len]; omega))
        rw [clL_len, clL_len, hcl1.same hcl2, decide_eq_true rfl] at C9
        go_wp2_with fail
        refine C9.out.mono ?_
        rintro e w11 ⟨rfl, n11, rfl⟩
        have hU11 := (((hu.then_non hu8).then_non hu9).then_non hu10).drewN n11
        clear C6 C7 C8 C9 hi1 hi2 hcl1 hcl2 hZV hPV hpo hPA hz2 hcell2
        go_wp2_with fail
        go_roundg (3 - (k + 1))
        case measure => rw [Hg.out]; omega
        case rel => exact ⟨k + 1, rfl, by omega, by go_num, hU11⟩
      · obtain rfl : k = 3 := by omega
        go_wp2_with fail
        refine (cExamples_c _).mono ?_
        rintro e w9 ⟨rfl, hu9⟩
        go_wp2_with fail
        go_ret
        exact ⟨rfl, (hU7.then_non hu).then_non hu9⟩
end Go.Proofs.Ytlehiklgbladoaa
