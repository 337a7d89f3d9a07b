/-
  CongruenceSound, called at a list of words and two words, returns true and turns nothing old.
-/
import Derived.Test.YtlehiklgbladoaaValC
import Derived.Test.YtlehiklgbladoaaCEx
namespace Go.Proofs.Ytlehiklgbladoaa
open Go.RowKit

def ValueRet (L : List Nd) (n : Int) (i : Nat) (w : World) (e : Ending) (w' : World) : Prop :=
  e = .returned (.tuple #[.int .i64 (if (L.getD i ⟨0, 0, []⟩).op = 26 then 0 else val L n i), .bool (decide (¬ (L.getD i ⟨0, 0, []⟩).op = 26))]) ∧ Upd Non w w'
theorem value_any (w : World) (F : Nat → Prop) (LA AA : Option Addr) (lc ac : Nat) (L : List Nd) (i : Nat) (a : Int) (hL : NodesV w F LA L) (hA : Ints w F AA [a, a]) (hc : L.length ≤ lc) (hi : i < L.length) (hn : L.length ≤ 100000000) (hk : ∀ nd ∈ L, nd.kids.length ≤ 100000000) (hv : VL L) :
    Calls Try.prog 16 #[.slice LA L.length lc, .int .i64 i, .slice AA 2 ac] w (ValueRet L a i w) := by
  unfold ValueRet
  rw [getD_of hi]
  by_cases h : L[i].op = 26
  · rw [if_pos h, decide_eq_false (fun f => f h)]
    exact value_no w F LA lc L i (.slice AA 2 ac) hL hc hi hn hk hv h
  · rw [if_neg h, decide_eq_true h]
    exact value_c w F LA AA lc ac L i a hL hA hc hi hn hk hv h

set_option maxHeartbeats 4000000 in
set_option maxRecDepth 100000 in
theorem cSnd_c (w : World) (F : Nat → Prop) (LA : Option Addr) (lc : Nat) (l : List Int) (a raw : Int) (hl : Ints w F LA l) (hli : ∀ x ∈ l, I64 x) (hll : l.length ≤ 1000000000000000) (ha : I64 a) :
    Calls Try.prog 7 #[.slice LA l.length lc, .int .i64 a, .int .i64 raw] w fun e w' => e = .returned (.bool true) ∧ Upd Non w w' := by
  have C0 := Lib.hid (nodes_c w F LA lc l true hl hli hll)
  have hg := nodesF_good true l hli
  have hlen := nodesF_len true l
  have hvl := nodesF_vl l
  have hbase := nodesTo_base true l 14
  have hsm := nodesTo_small true l 14
  obtain ⟨L, HL⟩ := nm (nodesF true l)
  rw [show nodesTo true l 14 = L from HL.out] at hsm hbase
  rw [HL.out] at C0 hg hlen hvl
  have hpos := hg.pos
  have Hok := Lib.hid hg.ok
  have HVL := Lib.hid hvl
  have HB := Lib.hid hbase
  have HSM : Hid (∀ nd ∈ L, nd.kids.length ≤ 100000000) := fun nd h => by have := hsm nd h; omega
  clear hg hl hli hvl hbase hsm
  go_enter Try.func7, Try.ntmps7
  go_wp2_with fail
  refine C0.out.mono ?_
  rintro e w1 ⟨A, c, rfl, hno, hA, hu1⟩
  have hlc : L.length ≤ c := by
    obtain ⟨_, _, ho, _⟩ := hno
    exact ho.le
  clear C0
  go_wp2_with fail
  have hP := Blk.new w1 28 #[.int .i64 0, .int .i64 1]
  have hU := hu1.alloc (.cells #[.int .i64 0, .int .i64 1] 28)
  have hLV := (hno.view (F := fun _ => True) (fun _ _ => trivial) (fun _ _ _ => trivial)).upd (Upd.refl.alloc (.cells #[.int .i64 0, .int .i64 1] 28) (S := Non)) (fun _ _ _ f => f)
  obtain ⟨W, HW⟩ := nm (w1.alloc (.cells #[.int .i64 0, .int .i64 1] 28))
  rw [HW.out] at hP hU hLV ⊢
  have hPV : PairsV W (fun _ => True) (some ⟨w1.heap.size, 0, none⟩) [((0 : Int), (1 : Int))] := .inr ⟨_, 0, rfl, trivial, fun i hi => by
    have hi1 : i < 1 := hi
    match i, hi1 with
    | 0, _ => exact ⟨by rw [hP.cell]; rfl, by rw [hP.cell]; rfl⟩⟩
  refine (classes_c W _ _ _ c 1 L [((0 : Int), (1 : Int))] hLV hPV (by omega) (by simp) Hok.out).mono ?_
  rintro e w2 ⟨cl, CA, cc, hcl, rfl, hcc, hi, hu2⟩
  have hLV2 := hLV.upd hu2 (fun _ _ _ f => f)
  have hU2 := hU.then_non hu2
  have HS := Lib.hid (fun (n : Int) (i : Nat) (hi : i < L.length) => sound_plain HVL.out n HB.out hcl hi)
  have hc1 : cl 1 = 0 := by
    have h1 := hcl.resp.pair ((0 : Int), (1 : Int)) (by simp) ⟨by simp, by simp; omega⟩ ⟨by simp, by simp; omega⟩
    have h2 := hcl.named.le 0 (by omega)
    have h3 : cl 0 = cl 1 := h1
    omega
  obtain ⟨b1, o1, rfl, _, _, hcells⟩ := clL_at (L := L) (c := cl) hi (by omega)
  have k1 := hcells 1 (by omega)
  rw [hc1] at k1
  have k1 : w2.cell? ⟨b1, o1 + 1, none⟩ = some (.int .i64 0) := k1
  have HC := Lib.hid hcells
  clear hcells hc1 hLV hPV hP hU hno hA hcl hi hu2
  have C2 := Lib.hid (word_c w2 a raw ha)
  obtain ⟨n, Hn⟩ := nm (wordF a raw)
  rw [Hn.out] at C2
  have hne : ((L.length : Int) != (L.length : Int)) = false := by simp
  have hl1 : 1 < L.length := by omega
  go_wp2_with fail
  refine C2.out.mono ?_
  rintro e w3 ⟨rfl, hu3⟩
  have hLV3 := hLV2.upd hu3 (fun _ _ _ f => f)
  have hU3 := hU2.then_non hu3
  have HC3 : Hid (∀ j, j < L.length → w3.cell? ⟨b1, o1 + j, none⟩ = some (.int .i64 (cl j : Int))) := fun j hj => cell_upd (HC.out j hj) hu3 (fun f => f)
  clear C2 k1 HC hLV2 hU2 hu3 hne
  go_wp2_with fail
  go_loopg [37] L.length (fun g i wr => ∃ k : Nat, Hid (g = L.length - k) ∧ k ≤ L.length ∧ i = .int .i64 (k : Int) ∧ Upd Non w3 wr)
  case atStart => exact ⟨0, rfl, by omega, rfl, Upd.refl⟩
  case round =>
    obtain ⟨k, Hg, hk, rfl, hu⟩ := hrel
    by_cases hlt : k < L.length
    · obtain ⟨hcl2, hs1, hs2⟩ := HS.out n k hlt
      have HV1 : Hid ((if (L.getD (cl k) ⟨0, 0, []⟩).op = 26 then 0 else val L n (cl k)) = (if (L.getD k ⟨0, 0, []⟩).op = 26 then 0 else val L n k)) := by
        show _ = _
        rw [getD_of hcl2, getD_of hlt]
        by_cases h : L[k].op = 26
        · rw [if_pos h, if_pos (hs1.1 h)]
        · rw [if_neg h, if_neg (fun f => h (hs1.2 f)), hs2 h]
      have HV2 : Hid (decide (¬ (L.getD (cl k) ⟨0, 0, []⟩).op = 26) = decide (¬ (L.getD k ⟨0, 0, []⟩).op = 26)) := by
        show _ = _
        rw [getD_of hcl2, getD_of hlt]
        exact decide_eq_decide.2 (not_congr hs1.symm)
      clear hs1 hs2
      have hcell := cell_upd (HC3.out k hlt) hu (fun f => f)
      have hLr := hLV3.upd hu (fun _ _ _ f => f)
      have u1 : Upd Non wr (wr.alloc (.cells #[.int .i64 n, .int .i64 n] 2)) := Upd.refl.alloc _
      have C3 := Lib.hid (value_any (wr.alloc (.cells #[.int .i64 n, .int .i64 n] 2)) (fun _ => True) A (some ⟨wr.heap.size, 0, none⟩) c 2 L k n (hLr.upd u1 (fun _ _ _ f => f)) (Ints.new [n, n] rfl rfl) hlc hlt (by omega) HSM.out HVL.out)
      have hb1 := World.block_lt_of_cell? _ _ hcell
      dsimp only at hb1
      have HLT := Lib.hid hcl2
      obtain ⟨q, Hq⟩ := nm (cl k)
      rw [Hq.out] at hcell HV1 HV2 HLT
      go_wp2_with fail
      refine C3.out.mono ?_
      rintro e w4 ⟨rfl, hu4⟩
      have hU4 := (hu.then_non u1).then_non hu4
      have hcell4 := cell_upd (cell_upd hcell u1 (fun f => f)) hu4 (fun f => f)
      have hL4 := (hLr.upd u1 (fun _ _ _ f => f)).upd hu4 (fun _ _ _ f => f)
      have u2 : Upd Non w4 (w4.alloc (.cells #[.int .i64 n, .int .i64 n] 2)) := Upd.refl.alloc _
      have C4 := Lib.hid (value_any (w4.alloc (.cells #[.int .i64 n, .int .i64 n] 2)) (fun _ => True) A (some ⟨w4.heap.size, 0, none⟩) c 2 L q n (hL4.upd u2 (fun _ _ _ f => f)) (Ints.new [n, n] rfl rfl) hlc HLT.out (by omega) HSM.out HVL.out)
      unfold ValueRet at C4
      rw [HV1.out, HV2.out] at C4
      obtain ⟨x, Hx⟩ := nm (if (L.getD k ⟨0, 0, []⟩).op = 26 then 0 else val L n k)
      obtain ⟨y, Hy⟩ := nm (decide (¬ (L.getD k ⟨0, 0, []⟩).op = 26))
      rw [Hx.out, Hy.out] at C4 ⊢
      clear C3 hcell hLr u1 hu hL4 hu4 HV1 HV2 Hx Hy
      go_wp2_with fail
      refine C4.out.mono ?_
      rintro e w5 ⟨rfl, hu5⟩
      have hU5 := (hU4.then_non u2).then_non hu5
      clear C4 hcell4 u2
      go_wp2_with fail
      go_roundg (L.length - (k + 1))
      case measure => rw [Hg.out]; omega
      case rel => exact ⟨k + 1, rfl, by omega, by go_num, hU5⟩
    · obtain rfl : k = L.length := by omega
      go_wp2_with fail
      refine (cExamples_c _).mono ?_
      rintro e w9 ⟨rfl, hu9⟩
      go_wp2_with fail
      go_ret
      exact ⟨rfl, (hU3.then_non hu).then_non hu9⟩
end Go.Proofs.Ytlehiklgbladoaa
