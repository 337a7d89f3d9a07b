/-
  CongruenceClosure, called at lists of words, returns true and turns nothing old.
-/
import Derived.Test.YtlehiklgbladoaaLMono
namespace Go.Proofs.Ytlehiklgbladoaa
open Go.RowKit

theorem NodesV.all_ {w : World} {F : Nat → Prop} {A : Option Addr} {L : List Nd} (h : NodesV w F A L) (hne : 0 < L.length) : ∃ b off, A = some ⟨b, off, none⟩ ∧ F b ∧ b < w.heap.size ∧ ∀ i (h : i < L.length), NodeAt w F b (off + i * 3) L[i] := by
  rcases h with rfl | ⟨b, off, e, hF, hc⟩
  · simp at hne
  · exact ⟨b, off, e, hF, World.block_lt_of_cell? _ _ (hc 0 hne).1, hc⟩

/-- Operation, immediate operand and number of operands alike. -/
def headB (a b : Nd) : Bool := decide (a.op = b.op ∧ a.imm = b.imm ∧ a.kids.length = b.kids.length)
def kidSame (c : Nat → Nat) (a b : Nd) (q : Nat) : Prop := ∀ t, t < q → c (a.kids.getD t 0).toNat = c (b.kids.getD t 0).toNat
theorem cg_of {n : Nat} {c : Nat → Nat} {a b : Nd} (ha : okKids n a.kids = true) (hb : okKids n b.kids = true) (hh : headB a b = true) (hk : kidSame c a b a.kids.length) : Cg n c a b := by
  obtain ⟨h1, h2, h3⟩ := of_decide_eq_true hh
  refine ⟨h1, h2, ha, hb, ?_⟩
  apply List.ext_getElem
  · simp [kidCs, h3]
  · intro i hi hi'
    have e := hk i (by simpa [kidCs] using hi)
    rw [getD_of (by simpa [kidCs] using hi), getD_of (by simpa [kidCs] using hi')] at e
    simpa [kidCs] using e

set_option maxHeartbeats 4000000 in
set_option maxRecDepth 100000 in
theorem cClo_c (w : World) (F : Nat → Prop) (LA MA : Option Addr) (lc mc : Nat) (l m : List Int) (hl : Ints w F LA l) (hm : Ints w F MA m) (hli : ∀ x ∈ l, I64 x) (hll : l.length ≤ 1000000000000000) (hml : m.length ≤ 1000000000000000) :
    Calls Try.prog 5 #[.slice LA l.length lc, .slice MA m.length mc] w fun e w' => e = .returned (.bool true) ∧ Upd Non w w' := by
  have C0 := Lib.hid (nodes_c w F LA lc l false hl hli hll)
  have hg := nodesF_good false l hli
  have hlen := nodesF_len false l
  have hsm := nodesTo_small false l 14
  obtain ⟨L, HL⟩ := nm (nodesF false l)
  rw [HL.out] at C0 hg hlen
  rw [show nodesTo false l 14 = L from HL.out] at hsm
  have hpos := hg.pos
  have Hok := Lib.hid hg.ok
  have Hkd := Lib.hid hg.kids
  have Hsm := Lib.hid hsm
  clear hg hl hli hsm
  go_enter Try.func5, Try.ntmps5
  go_wp2_with fail
  refine C0.out.mono ?_
  rintro e w1 ⟨A, c0, rfl, hno, hA, hu1⟩
  clear C0
  have C1 := Lib.hid (pairs_c w1 F MA mc L.length m (hm.upd hu1 (fun _ _ _ f => f)) hml (by omega))
  have hpl := pairsF_len m L.length
  obtain ⟨ps, Hps⟩ := nm (pairsF m L.length)
  rw [Hps.out] at C1 hpl
  go_wp2_with fail
  refine C1.out.mono ?_
  rintro e w2 ⟨PA, pc, rfl, hpo, hPA, hu2⟩
  clear C1
  have hLV := (hno.view (F := fun _ => True) (fun _ _ => trivial) (fun _ _ _ => trivial)).upd hu2 (fun _ _ _ f => f)
  have hPV := (Own.pairs hpo).mono (G := fun _ => True) (fun _ _ _ => trivial)
  have C3 := Lib.hid (classes_c w2 (fun _ => True) A PA c0 pc L ps hLV hPV (by omega) (by omega) Hok.out)
  go_wp2_with fail
  refine C3.out.mono ?_
  rintro e w3 ⟨c, CA, cc, hcl, rfl, hcc, hi, hu3⟩
  have hLV3 := hLV.upd hu3 (fun _ _ _ f => f)
  have hPV3 := hPV.upd hu3 (fun _ _ _ f => f)
  have hU3 := (hu1.then_non hu2).then_non hu3
  have hL0 : 0 < L.length := by omega
  obtain ⟨b1, o1, rfl, _, hb1, hc1⟩ := clL_at (L := L) (c := c) hi hL0
  obtain ⟨lb, lo, rfl, _, hlb, hN⟩ := hLV3.all_ hL0
  have HN := Lib.hid hN
  have HC := Lib.hid hc1
  have HCL := Lib.hid hcl
  clear C3 hLV hPV hu1 hu2 hu3 hpo hno hm hPA hA hN hc1 hcl
  go_wp2_with fail
  go_loopg [8, 31] L.length (fun g v i wr => ∃ (k oc : Nat) (OA : Option Addr), Hid (g = L.length - k) ∧ k ≤ L.length ∧ i = .int .i64 k ∧ v = .slice OA k oc ∧ Own wr 28 2 OA k oc (pcells (ownTo c k)) ∧ Hid (∀ j, At OA j → w3.heap.size ≤ j) ∧ Upd Non w3 wr)
  case atStart => exact ⟨0, 0, none, rfl, by omega, rfl, rfl, Own.none_, fun j hj => (At.none_ hj).elim, Upd.refl⟩
  case round =>
    obtain ⟨k, oc, OA, Hg, hk, rfl, rfl, ho, HO, hu⟩ := hrel
    by_cases hlt : k < L.length
    · have f1 := cell_upd (HC.out k hlt) hu (fun f => f)
      have hck := HCL.out.named.le k hlt
      have f2 := cell_upd (HC.out (c k) (by omega)) hu (fun f => f)
      rw [HCL.out.named.idem k hlt] at f2
      have HS := Lib.hid (ownTo_succ c k)
      obtain ⟨r, Hr⟩ := nm (c k)
      rw [Hr.out] at f1 f2 hck HS
      have d1 : decide ((r : Int) < 0) = false := by simp
      have d2 : decide ((k : Int) < (r : Int)) = false := by simp; omega
      have d3 : decide (k < r) = false := by simp; omega
      have hrl : r < L.length := by omega
      go_wp2_with fail
      go_quiet (fail)
      go_wp2_with (at_builtin; refine wpList_app rfl rfl T_pairs rfl ((Own.drewN ho _).alloc _) rfl (Sl.new _ _ _) rfl (by simp [Value.oneCell']) (by simp only [maxLen]; omega) (by omega) ?_; intro A4 c4 w4 ho4 hu4 hat4)
      have hu5 : Upd Non w3 w4 := ((hu.drewN _).alloc _).trans hu4 (fun i hi h => by have := HO.out i h; omega)
      have HO4 : Hid (∀ j, At A4 j → w3.heap.size ≤ j) := fun j hj => by
        rcases hat4 j hj with h | h
        · exact HO.out j h
        · have := hu.size; simp at h; omega
      have ho5 : Own w4 28 2 A4 (k + 1) c4 (pcells (ownTo c (k + 1))) := by rw [HS.out, pcells_snoc]; exact ho4
      obtain ⟨a1, a2, KA, ka, a3, _, aK⟩ := (HN.out k hlt).upd hu5 (fun _ _ _ f => f) (fun f => f)
      have hka := Hsm.out _ (List.getElem_mem hlt)
      have HkA := Lib.hid (Hkd.out _ (List.getElem_mem hlt))
      have HCG := Lib.hid (fun (j : Nat) (hj : j < L.length) => HCL.out.resp.cong k j hlt hj)
      have f1 := cell_upd (HC.out k hlt) hu5 (fun f => f)
      rw [Hr.out] at f1
      generalize L[k] = nk at *
      clear f2 d1 d2 d3 ho ho4 hu4 hat4 hu HS HO
      go_loopg [10] k (fun g i wx => ∃ (j n : Nat), Hid (g = k - j) ∧ j ≤ k ∧ i = .int .i64 j ∧ wx = w4.drewN n)
      case atStart => exact ⟨0, 0, rfl, by omega, rfl, rfl⟩
      case round =>
        obtain ⟨j, n2, Hg2, hj, rfl, rfl⟩ := hrel
        by_cases hlt2 : j < k
        · have hjL : j < L.length := by omega
          obtain ⟨e1, e2, KB, kb, e3, _, eK⟩ := (HN.out j hjL).upd hu5 (fun _ _ _ f => f) (fun f => f)
          have hkb := Hsm.out _ (List.getElem_mem hjL)
          have HkB := Lib.hid (Hkd.out _ (List.getElem_mem hjL))
          have HCG2 := Lib.hid (HCG.out j hjL)
          rw [Hr.out] at HCG2
          have f3 := cell_upd (HC.out j hjL) hu5 (fun f => f)
          generalize L[j] = nj at *
          obtain ⟨sb, Hsb⟩ := nm (headB nk nj)
          go_upto_region 16 with fail
          go_cut [11] (fun s wx => s = .bool sb ∧ ∃ n, wx = w4.drewN n)
          case first =>
            clear HCG HCG2 HkA HkB f1 f3 aK eK
            by_cases h1 : nk.op = nj.op
            · by_cases h2 : nk.imm = nj.imm
              · by_cases h3 : nk.kids.length = nj.kids.length
                · have HB : Hid (true = sb) := by show _ = _; rw [← Hsb.out]; simp [headB, h1, h2, h3]
                  rw [h1] at a1
                  rw [h2] at a2
                  rw [h3] at a3
                  clear h1 h2 h3 hka
                  go_wp2_with fail
                  go_quiet (fail)
                  go_wp2_with fail
                  go_meet
                  exact ⟨by rw [← HB.out], _, World.drewN_drewN _ _ _⟩
                · have HB : Hid (false = sb) := by show _ = _; rw [← Hsb.out]; simp [headB, h3]
                  have hb : ((nk.kids.length : Int) == (nj.kids.length : Int)) = false := by rw [beq_eq_false_iff_ne]; omega
                  rw [h1] at a1
                  rw [h2] at a2
                  clear h1 h2 h3
                  go_wp2_with fail
                  go_quiet (fail)
                  go_wp2_with fail
                  go_meet
                  exact ⟨by rw [← HB.out], _, World.drewN_drewN _ _ _⟩
              · have HB : Hid (false = sb) := by show _ = _; rw [← Hsb.out]; simp [headB, h2]
                have hb : (nk.imm == nj.imm) = false := by simpa using h2
                rw [h1] at a1
                clear h1 h2
                go_wp2_with fail
                go_quiet (fail)
                go_wp2_with fail
                go_meet
                exact ⟨by rw [← HB.out], _, World.drewN_drewN _ _ _⟩
            · have HB : Hid (false = sb) := by show _ = _; rw [← Hsb.out]; simp [headB, h1]
              have hb : (nk.op == nj.op) = false := by simpa using h1
              clear h1
              go_wp2_with fail
              go_quiet (fail)
              go_wp2_with fail
              go_meet
              exact ⟨by rw [← HB.out], _, World.drewN_drewN _ _ _⟩
          case rest =>
            obtain ⟨rfl, n3, rfl⟩ := hcut
            clear a1 a2 e1 e2
            go_wp2_with fail
            go_loopg [11, 12] nk.kids.length (fun g s i wx => ∃ (q n : Nat) (b : Bool), Hid (g = nk.kids.length - q) ∧ q ≤ nk.kids.length ∧ i = .int .i64 q ∧ s = .bool b ∧ Hid (b = true → headB nk nj = true ∧ kidSame c nk nj q) ∧ wx = w4.drewN n)
            case atStart => exact ⟨0, n3, sb, rfl, by omega, rfl, rfl, fun h => ⟨by rw [Hsb.out, h], fun t ht => by omega⟩, rfl⟩
            case round =>
              obtain ⟨q, n4, b, Hg3, hq, rfl, rfl, Hb, rfl⟩ := hrel
              cases b with
              | false =>
                clear Hb
                go_wp2_with fail
                go_quiet (fail)
                go_wp2_with fail
                go_roundg (k - (j + 1))
                case measure => rw [Hg2.out]; omega
                case rel => exact ⟨j + 1, _, rfl, by omega, by go_num, rfl⟩
              | true =>
                obtain ⟨hh, hs⟩ := Hb.out rfl
                have HH := Lib.hid hh
                have HSK := Lib.hid hs
                have hle : nj.kids.length = nk.kids.length := (of_decide_eq_true hh).2.2.symm
                rw [hle] at e3
                by_cases hlt3 : q < nk.kids.length
                · have hlt4 : q < nj.kids.length := by omega
                  clear Hb hh hs
                  have Hle := Lib.hid hle
                  obtain ⟨kb1, ko1, rfl, _, _, g1⟩ := aK.at_ hlt3
                  obtain ⟨kb2, ko2, rfl, _, _, g2⟩ := eK.at_ hlt4
                  have hx := okKids_get HkA.out hlt3
                  have hy := okKids_get HkB.out hlt4
                  have HGA := Lib.hid (getD_of (d := (0 : Int)) hlt3)
                  have HGB := Lib.hid (getD_of (d := (0 : Int)) hlt4)
                  generalize nk.kids[q] = x at *
                  generalize nj.kids[q] = y at *
                  obtain ⟨x, rfl⟩ := Int.eq_ofNat_of_zero_le hx.1
                  obtain ⟨y, rfl⟩ := Int.eq_ofNat_of_zero_le hy.1
                  clear hle hlt4 hkb
                  have hxl : x < L.length := by omega
                  have hyl : y < L.length := by omega
                  have g3 := cell_upd (HC.out x hxl) hu5 (fun f => f)
                  have g4 := cell_upd (HC.out y hyl) hu5 (fun f => f)
                  clear hx hy
                  have HK2 : Hid (decide (c x = c y) = true → headB nk nj = true ∧ kidSame c nk nj (q + 1)) := fun h => ⟨HH.out, fun t ht => by
                    by_cases e : t = q
                    · subst e; rw [HGA.out, HGB.out]; simpa using h
                    · exact HSK.out t (by omega)⟩
                  obtain ⟨bb, Hbb, hbb⟩ : ∃ bb, Hid (decide (c x = c y) = bb) ∧ (((c x : Nat) : Int) == ((c y : Nat) : Int)) = bb := ⟨_, rfl, by
                    rw [Bool.eq_iff_iff]; simp; omega⟩
                  rw [Hbb.out] at HK2
                  go_wp2_with fail
                  go_quiet (fail)
                  go_wp2_with fail
                  go_roundg (nk.kids.length - (q + 1))
                  case measure => rw [Hg3.out]; omega
                  case rel => exact ⟨q + 1, _, bb, rfl, by omega, by go_num, by first | rfl | rw [hbb], HK2, rfl⟩
                · obtain rfl : q = nk.kids.length := by omega
                  have HE := Lib.hid (HCG2.out (cg_of HkA.out HkB.out hh hs))
                  rw [← HE.out] at f3
                  clear Hb hh hs hle hkb HE
                  go_wp2_with fail
                  go_quiet (fail)
                  go_wp2_with fail
                  go_roundg (k - (j + 1))
                  case measure => rw [Hg2.out]; omega
                  case rel => exact ⟨j + 1, _, rfl, by omega, by go_num, rfl⟩
        · obtain rfl : j = k := by omega
          go_wp2_with fail
          go_roundg (L.length - (j + 1))
          case measure => rw [Hg.out]; omega
          case rel => exact ⟨j + 1, c4, A4, rfl, by omega, by go_num, rfl, ho5.drewN _, HO4, hu5.drewN _⟩
    · obtain rfl : k = L.length := by omega
      have HOL := Lib.hid (ownTo_len c L.length)
      have hi5 := hi.upd hu (fun _ _ _ f => f)
      have hLV5 := hLV3.upd hu (fun _ _ _ f => f)
      have hPV5 := hPV3.upd hu (fun _ _ _ f => f)
      have hU5 := hU3.then_non hu
      have HC5 : Hid (∀ j, j < L.length → wr.cell? ⟨b1, o1 + j, none⟩ = some (.int .i64 (c j : Int))) := fun j hj => cell_upd (HC.out j hj) hu (fun f => f)
      clear hi hLV3 hPV3 hU3 hu HN HC
      obtain ⟨wo, rfl⟩ : ∃ wo : World, wo = wr := ⟨_, rfl⟩
      go_wp2_with fail
      go_loopg [165] ps.length (fun g i wx => ∃ (k : Nat), Hid (g = ps.length - k) ∧ k ≤ ps.length ∧ i = .int .i64 k ∧ Upd Non wo wx)
      case atStart => exact ⟨0, rfl, by omega, rfl, Upd.refl⟩
      case round =>
        obtain ⟨k, Hg4, hk4, rfl, hu6⟩ := hrel
        by_cases hlt : k < ps.length
        · obtain ⟨pb, po, rfl, _, hpb, p0, p1⟩ := (hPV5.upd hu6 (fun _ _ _ f => f)).at_ hlt
          have HPR := Lib.hid (HCL.out.resp.pair _ (List.getElem_mem hlt))
          generalize ps[k] = pq at *
          obtain ⟨x, y⟩ := pq
          dsimp only at p0 p1 HPR
          by_cases h1 : 0 ≤ x
          · by_cases h2 : 0 ≤ y
            · obtain ⟨x, rfl⟩ := Int.eq_ofNat_of_zero_le h1
              obtain ⟨y, rfl⟩ := Int.eq_ofNat_of_zero_le h2
              by_cases h3 : x < L.length
              · by_cases h4 : y < L.length
                · have g1 := cell_upd (HC5.out x h3) hu6 (fun f => f)
                  have g2 := cell_upd (HC5.out y h4) hu6 (fun f => f)
                  have HE := Lib.hid (HPR.out ⟨h1, by simpa using h3⟩ ⟨h2, by simpa using h4⟩)
                  simp only [Int.toNat_natCast] at HE
                  rw [HE.out] at g1
                  have g1' := cell_upd g1 (Upd.refl (S := Non).alloc (.cells #[.int .i64 x, .int .i64 y] 28)) (fun f => f)
                  have g2' := cell_upd g2 (Upd.refl (S := Non).alloc (.cells #[.int .i64 x, .int .i64 y] 28)) (fun f => f)
                  clear HPR HE
                  go_wp2_with fail
                  go_quiet (fail)
                  go_wp2_with fail
                  go_roundg (ps.length - (k + 1))
                  case measure => rw [Hg4.out]; omega
                  case rel => exact ⟨k + 1, rfl, by omega, by go_num, (hu6.alloc _).drewN _⟩
                · have hd : decide (y < L.length) = false := by simpa using h4
                  have hd2 : decide ((y : Int) < (L.length : Int)) = false := by simpa using h4
                  clear HPR h4
                  go_wp2_with fail
                  go_quiet (fail)
                  go_wp2_with fail
                  go_roundg (ps.length - (k + 1))
                  case measure => rw [Hg4.out]; omega
                  case rel => exact ⟨k + 1, rfl, by omega, by go_num, (hu6.alloc _).drewN _⟩
              · have hd : decide (x < L.length) = false := by simpa using h3
                have hd2 : decide ((x : Int) < (L.length : Int)) = false := by simpa using h3
                clear HPR h3
                go_wp2_with fail
                go_quiet (fail)
                go_wp2_with fail
                go_roundg (ps.length - (k + 1))
                case measure => rw [Hg4.out]; omega
                case rel => exact ⟨k + 1, rfl, by omega, by go_num, (hu6.alloc _).drewN _⟩
            · have hd : decide (0 ≤ y) = false := by simpa using h2
              clear HPR h2
              go_wp2_with fail
              go_quiet (fail)
              go_wp2_with fail
              go_roundg (ps.length - (k + 1))
              case measure => rw [Hg4.out]; omega
              case rel => exact ⟨k + 1, rfl, by omega, by go_num, (hu6.alloc _).drewN _⟩
          · have hd : decide (0 ≤ x) = false := by simpa using h1
            clear HPR h1
            go_wp2_with fail
            go_quiet (fail)
            go_wp2_with fail
            go_roundg (ps.length - (k + 1))
            case measure => rw [Hg4.out]; omega
            case rel => exact ⟨k + 1, rfl, by omega, by go_num, (hu6.alloc _).drewN _⟩
        · obtain rfl : k = ps.length := by omega
          have hPB := ((Own.pairs ho).mono (G := fun _ => True) (fun _ _ _ => trivial)).upd hu6 (fun _ _ _ f => f)
          have C5 := Lib.hid (classes_c wr (fun _ => True) (some ⟨lb, lo, none⟩) OA c0 oc L (ownTo c L.length) (hLV5.upd hu6 (fun _ _ _ f => f)) hPB (by omega) (by rw [HOL.out]; omega) Hok.out)
          rw [HOL.out] at C5
          go_wp2_with fail
          refine C5.out.mono ?_
          rintro e w7 ⟨c3, A3, cc3, hcl3, rfl, hcc3, hi3, hu7⟩
          have hi7 := (hi5.upd hu6 (fun _ _ _ f => f)).upd hu7 (fun _ _ _ f => f)
          have HE := Lib.hid (hcl3.same HCL.out.own)
          have hU7 := (hU5.then_non hu6).then_non hu7
          have C6 := Lib.hid (sameInts_c w7 _ _ A3 (some ⟨b1, o1, none⟩) cc3 cc (clL L c3) (clL L c) hi3 hi7 (by rw [clL_len]; omega))
          rw [clL_len, clL_len, HE.out, decide_eq_true rfl] at C6
          go_wp2_with fail
          refine C6.out.mono ?_
          rintro e w8 ⟨rfl, n8, rfl⟩
          go_wp2_with fail
          refine (cExamples_c _).mono ?_
          rintro e w9 ⟨rfl, hu9⟩
          go_wp2_with fail
          go_ret
          exact ⟨rfl, (hU7.drewN _).then_non hu9⟩
end Go.Proofs.Ytlehiklgbladoaa
