/-
  What fullingref7.Sorts does: it returns the sorts of all nodes.
-/
import Derived.Test.YtigambcefdeaoaaNSort
import Derived.Test.YtigambcefdeaoaaCong
namespace Go.Proofs.Ytigambcefdeaoaa
open Go.RowKit

def icells (l : List Int) : List Value := l.map fun x => Value.int .i64 x
theorem icells_snoc (l : List Int) (x : Int) : icells (l ++ [x]) = icells l ++ [.int .i64 x] := by simp [icells]
theorem T_ints' : SlT Try.prog 22 3 1 8 := by
  obtain ⟨i, h1, h2, h3, h4⟩ := info_parts (show (Try.prog.info? 3).map (fun i => (i.zero, i.size, i.bytes)) = some (some (.int .i64 0), 1, 8) from by kernel_rfl)
  exact ⟨Try.underlying22, ⟨i, _, h1, h2, h3, h4, rfl⟩, by omega⟩
theorem Own.ints {w : World} {A : Option Addr} {n c : Nat} {l : List Int} (h : Own w 3 1 A n c (icells l)) : Ints w (At A) A l := h.sl
theorem Own.le {w : World} {e : TypeId} {size : Nat} {A : Option Addr} {n c : Nat} {cs : List Value} (h : Own w e size A n c cs) : n ≤ c := by
  rcases h.cases with ⟨_, h, _⟩ | ⟨_, _, _, _, h, _⟩ <;> omega

set_option maxHeartbeats 2000000 in
set_option maxRecDepth 100000 in
theorem sorts_c (w : World) (F : Nat → Prop) (LA : Option Addr) (lc : Nat) (L : List Nd) (hL : NodesV w F LA L) (hn : L.length ≤ 100000000000) (hk : ∀ nd ∈ L, nd.kids.length ≤ 100000000000) :
    Calls Try.prog 52 #[.slice LA L.length lc] w fun e w' => ∃ A c, e = .returned (.slice A L.length c) ∧ Own w' 3 1 A L.length c (icells (sortsF L)) ∧ (∀ k, At A k → w.heap.size ≤ k) ∧ Upd Non w w' := by
  have HK := Lib.hid hk
  clear hk
  have hL := hL.mono (G := (· < w.heap.size)) (fun k hk _ => hk)
  go_enter Try.func52, Try.ntmps52
  go_wp2_with fail
  go_loopg [3, 4] L.length (fun g v i wr => ∃ (k cc : Nat) (A : Option Addr), Hid (g = L.length - k) ∧ k ≤ L.length ∧ i = .int .i64 k ∧ v = .slice A k cc ∧ Own wr 3 1 A k cc (icells (sortsTo L k)) ∧ Hid (∀ j, At A j → w.heap.size ≤ j) ∧ Upd Non w wr)
  case atStart => exact ⟨0, 0, none, rfl, by omega, rfl, rfl, Own.none_, fun j hj => (At.none_ hj).elim, Upd.refl⟩
  case round =>
    obtain ⟨k, cc, A, Hg, hk, rfl, rfl, ho, HA, hu⟩ := hrel
    by_cases hlt : k < L.length
    · have HS := Lib.hid (sortsTo_succ L k hlt)
      have hkk := HK.out _ (List.getElem_mem hlt)
      have HSL := Lib.hid (sortsTo_len L k)
      obtain ⟨lb, lo, rfl, hFl, hlb, hN⟩ := (hL.upd hu (fun _ _ _ f => f)).at_ hlt
      obtain ⟨h1, h2, KA, kc, h3, hkc, hki⟩ := hN
      obtain ⟨nd, Hnd⟩ : ∃ nd, Hid (L[k] = nd) := nm _
      rw [Hnd.out] at HS hkk h1 h2 h3 hkc hki
      obtain ⟨out, Hout⟩ : ∃ out, Hid (sortsTo L k = out) := nm _
      rw [Hout.out] at HS ho HSL
      obtain ⟨wo, rfl⟩ : ∃ wo : World, wo = wr := ⟨_, rfl⟩
      go_wp2_with fail
      go_loopg [5, 6, 7] nd.kids.length (fun g v okv i wr => ∃ (j c2 : Nat) (A2 : Option Addr), Hid (g = nd.kids.length - j) ∧ j ≤ nd.kids.length ∧ i = .int .i64 j ∧ okv = .bool true ∧ v = .slice A2 j c2 ∧ Own wr 3 1 A2 j c2 (icells (kidSorts out (nd.kids.take j))) ∧
        Hid (kidsOk out (nd.kids.take j) = true) ∧ Hid (∀ b, At A2 b → wo.heap.size ≤ b) ∧ Upd Non wo wr)
      case atStart => exact ⟨0, 0, none, rfl, by omega, rfl, rfl, rfl, Own.none_, by simp [Hid, kidsOk], fun j hj => (At.none_ hj).elim, Upd.refl⟩
      case round =>
        obtain ⟨j, c2, A2, Hg2, hj, rfl, rfl, rfl, ho2, Hok, HA2, hu2⟩ := hrel
        have hw1 := cell_upd h1 hu2 (fun f => f)
        have hw2 := cell_upd h2 hu2 (fun f => f)
        have hw3 := cell_upd h3 hu2 (fun f => f)
        have hki2 := hki.upd hu2 (fun _ _ _ f => f)
        have ho1 := ho.upd hu2 (fun _ _ f => f)
        by_cases hlt2 : j < nd.kids.length
        · obtain ⟨kb, ko, rfl, hFk, _, hck⟩ := hki2.at_ hlt2
          have HKS := Lib.hid (kidSorts_snoc out nd.kids j hlt2)
          have HKO : Hid (kidsOk out (nd.kids.take (j + 1)) = kidOk out nd.kids[j]) := by show _ = _; rw [kidsOk_snoc out nd.kids j hlt2, Hok.out, Bool.true_and]
          have HNO := Lib.hid (kidsOk_no (out := out) hlt2)
          generalize nd.kids[j] = q at *
          have hSL := HSL.out
          by_cases h0 : q < 0
          · have hbad : kidOk out q = false := by simp [kidOk]; omega
            clear hSL
            have HS2 : Hid (sortsTo L (k + 1) = out ++ [0]) := by show _ = _; rw [HS.out]; unfold sortsStep; rw [HNO.out hbad]; rfl
            clear hbad HNO
            go_wp2_with (at_builtin; refine wpList_app rfl rfl T_ints' rfl (ho1.alloc _) rfl (Sl.new _ _ _) rfl (by simp [Value.oneCell']) (by simp only [maxLen]; omega) (by omega) ?_; intro A3 c3 w3 ho3 hu3 hat3)
            go_roundg (L.length - (k + 1))
            case measure => rw [Hg.out]; omega
            case rel =>
              refine ⟨k + 1, c3, A3, rfl, by omega, by go_num, rfl, by rw [HS2.out, icells_snoc]; exact ho3, fun b hb => ?_, ((hu.then_non hu2).alloc _).trans hu3 (fun i hi h => by have := HA.out i h; omega)⟩
              rcases hat3 b hb with h | h
              · exact HA.out b h
              · have := hu.size; have := hu2.size; simp at h; omega
          by_cases h5 : (k : Int) ≤ q
          · have hbad : kidOk out q = false := by simp [kidOk]; omega
            clear hSL
            have HS2 : Hid (sortsTo L (k + 1) = out ++ [0]) := by show _ = _; rw [HS.out]; unfold sortsStep; rw [HNO.out hbad]; rfl
            clear hbad HNO
            go_wp2_with (at_builtin; refine wpList_app rfl rfl T_ints' rfl (ho1.alloc _) rfl (Sl.new _ _ _) rfl (by simp [Value.oneCell']) (by simp only [maxLen]; omega) (by omega) ?_; intro A3 c3 w3 ho3 hu3 hat3)
            go_roundg (L.length - (k + 1))
            case measure => rw [Hg.out]; omega
            case rel =>
              refine ⟨k + 1, c3, A3, rfl, by omega, by go_num, rfl, by rw [HS2.out, icells_snoc]; exact ho3, fun b hb => ?_, ((hu.then_non hu2).alloc _).trans hu3 (fun i hi h => by have := HA.out i h; omega)⟩
              rcases hat3 b hb with h | h
              · exact HA.out b h
              · have := hu.size; have := hu2.size; simp at h; omega
          obtain ⟨p, rfl⟩ := Int.eq_ofNat_of_zero_le (show 0 ≤ q by omega)
          have hpk : p < k := by omega
          have hpo : p < out.length := by rw [HSL.out]; exact hpk
          clear hSL
          obtain ⟨ob, oo, e, _, _, hco⟩ := ho1.ints.at_ (k := p) hpo
          rcases ho1.cases with ⟨rfl, _⟩ | ⟨gA, _, rfl, _⟩
          · cases e
          obtain ⟨rfl, rfl⟩ : gA = ob ∧ 0 = oo := by injection e with e; injection e with a b; exact ⟨a, b⟩
          clear e
          rw [Nat.zero_add] at hco
          have hgd : out.getD p 0 = out[p] := by simp [List.getD, List.getElem?_eq_getElem hpo]
          simp only [Int.toNat_natCast, hgd] at HKS
          by_cases h6 : out[p] = 0
          · have hbad : kidOk out (p : Int) = false := by simp only [kidOk, Int.toNat_natCast, hgd, h6]; simp
            rw [h6] at hco
            clear h6 hgd
            have HS2 : Hid (sortsTo L (k + 1) = out ++ [0]) := by show _ = _; rw [HS.out]; unfold sortsStep; rw [HNO.out hbad]; rfl
            clear hbad HNO
            go_wp2_with (at_builtin; refine wpList_app rfl rfl T_ints' rfl (ho1.alloc _) rfl (Sl.new _ _ _) rfl (by simp [Value.oneCell']) (by simp only [maxLen]; omega) (by omega) ?_; intro A3 c3 w3 ho3 hu3 hat3)
            go_roundg (L.length - (k + 1))
            case measure => rw [Hg.out]; omega
            case rel =>
              refine ⟨k + 1, c3, A3, rfl, by omega, by go_num, rfl, by rw [HS2.out, icells_snoc]; exact ho3, fun b hb => ?_, ((hu.then_non hu2).alloc _).trans hu3 (fun i hi h => by have := HA.out i h; omega)⟩
              rcases hat3 b hb with h | h
              · exact HA.out b h
              · have := hu.size; have := hu2.size; simp at h; omega
          · have hgood : kidOk out (p : Int) = true := by rw [kidOk_iff, Int.toNat_natCast, hgd]; exact ⟨by omega, by omega, h6⟩
            have d6 : (out[p] == 0) = false := by simpa using h6
            have HKO2 : Hid (kidsOk out (nd.kids.take (j + 1)) = true) := by show _ = _; rw [HKO.out, hgood]
            generalize out[p] = x at *
            clear h6 hgd hgood HNO
            go_wp2_with (at_builtin; refine wpList_app rfl rfl T_ints' rfl (ho2.alloc _) rfl (Sl.new _ _ _) rfl (by simp [Value.oneCell']) (by simp only [maxLen]; omega) (by omega) ?_; intro A3 c3 w3 ho3 hu3 hat3)
            go_roundg (nd.kids.length - (j + 1))
            case measure => rw [Hg2.out]; omega
            case rel =>
              refine ⟨j + 1, c3, A3, rfl, by omega, by go_num, rfl, rfl, by rw [HKS.out, icells_snoc]; exact ho3, HKO2, fun b hb => ?_, (hu2.alloc _).trans hu3 (fun i hi h => by have := HA2.out i h; omega)⟩
              rcases hat3 b hb with h | h
              · exact HA2.out b h
              · have := hu2.size; simp at h; omega
        · obtain rfl : nd.kids.length = j := by omega
          rw [List.take_length] at Hok ho2
          have HS2 : Hid (sortsTo L (k + 1) = out ++ [nodeSortF L nd.op nd.imm nd.kids (kidSorts out nd.kids)]) := by show _ = _; rw [HS.out]; unfold sortsStep; rw [Hok.out]; rfl
          have hkm := kidsOk_mem Hok.out
          have hSL := HSL.out
          have hLv := (hL.upd hu (fun _ _ _ f => f)).upd hu2 (fun _ _ _ f => f)
          have C1 := Lib.hid (nodeSort_c wr (· < w.heap.size) (At A2) _ KA A2 lc kc c2 L nd.op nd.imm nd.kids (kidSorts out nd.kids) hLv hki2 ho2.ints (by simp [kidSorts]) (fun x hx => by have := hkm x hx; omega) (fun nd hnd => by have := HK.out nd hnd; omega) (by simp [kidSorts]; exact ho2.le) (by simp [kidSorts]; omega))
          rw [show (kidSorts out nd.kids).length = nd.kids.length by simp [kidSorts]] at C1
          clear hkm hSL
          go_wp2_with fail
          refine C1.out.mono ?_
          rintro e w2 ⟨rfl, hu4⟩
          have ho1 := ho1.upd hu4 (fun _ _ f => f)
          have hu2 := hu2.then_non hu4
          clear C1
          go_wp2_with (at_builtin; refine wpList_app rfl rfl T_ints' rfl (ho1.alloc _) rfl (Sl.new _ _ _) rfl (by simp [Value.oneCell']) (by simp only [maxLen]; omega) (by omega) ?_; intro A3 c3 w3 ho3 hu3 hat3)
          go_roundg (L.length - (k + 1))
          case measure => rw [Hg.out]; omega
          case rel =>
            refine ⟨k + 1, c3, A3, rfl, by omega, by go_num, rfl, by rw [HS2.out, icells_snoc]; exact ho3, fun b hb => ?_, ((hu.then_non hu2).alloc _).trans hu3 (fun i hi h => by have := HA.out i h; omega)⟩
            rcases hat3 b hb with h | h
            · exact HA.out b h
            · have := hu.size; have := hu2.size; simp at h; omega
    · obtain rfl : L.length = k := by omega
      go_wp2_with fail
      go_ret
      exact ⟨A, cc, rfl, ho, HA.out, hu⟩
end Go.Proofs.Ytigambcefdeaoaa
