/-
  What congruent, Class, Classes and Distinct of an e-graph do.
-/
import Derived.Test.YtigambcefdeaoaaFGr
namespace Go.Proofs.Ytigambcefdeaoaa
open Go.RowKit

/-- The operation that has come up, out of its region. -/
theorem put_y : (∀ (l : List Oper) (i : Nat) (h : i < l.toArray.size), l.toArray[i]'h = l[i]'(by simpa using h)) ∧ (∀ (x : Oper) (l : List Oper) (h : 0 < (x :: l).length), (x :: l)[0]'h = x) ∧
    (∀ (x : Oper) (l : List Oper) (n : Nat) (h : n + 1 < (x :: l).length), (x :: l)[n + 1]'h = l[n]'(by simpa using h)) := ⟨fun _ _ _ => by simp, fun _ _ _ => rfl, fun _ _ _ _ => rfl⟩
theorem ckids_take (c : Nat → Nat) (ks : List Int) (k : Nat) (h : k < ks.length) : ckids c (ks.take (k + 1)) = ckids c (ks.take k) ++ [(c ks[k].toNat : Int)] := ckids_snoc c ks k h
theorem ckids_at {c : Nat → Nat} {ka kb : List Int} (h : ckids c ka = ckids c kb) {k : Nat} (ha : k < ka.length) (hb : k < kb.length) : c ka[k].toNat = c kb[k].toNat := by
  have h1 : (ckids c ka)[k]? = (ckids c kb)[k]? := by rw [h]
  simp [ckids, ha, hb] at h1
  omega

set_option maxRecDepth 100000 in
set_option maxHeartbeats 1000000 in
theorem gCongruent_c (w : World) (ρ : Nat → Role) (gb : Nat) (a : GA) (G : EG) (h : GM w ρ gb a G) (oa ia ob ib : Int) (ka kb : List Int) (KA KB : Option Addr) (ca cb : Nat) (F F2 : Nat → Prop) (hka : Ints w F KA ka) (hkb : Ints w F2 KB kb) (hna : ka.length ≤ 100000000000)
    (oka : okKids G.L.length ka = true) (okb : okKids G.L.length kb = true) :
    Calls Try.prog 49 #[gp gb, .agg #[.int .i64 oa, .int .i64 ia, .slice KA ka.length ca], .agg #[.int .i64 ob, .int .i64 ib, .slice KB kb.length cb]] w fun e w' => e = .returned (.bool (decide (ckids G.c ka = ckids G.c kb))) ∧ Upd Non w w' := by
  obtain ⟨W, HW⟩ := nm ((w.alloc (.cells #[.int .i64 oa, .int .i64 ia, .slice KA ka.length ca] 24)).alloc (.cells #[.int .i64 ob, .int .i64 ib, .slice KB kb.length cb] 24))
  have hU : Upd Non w W := by rw [← HW.out]; exact (Upd.refl.alloc _).alloc _
  have b1 : Blk W w.heap.size 24 #[.int .i64 oa, .int .i64 ia, .slice KA ka.length ca] := by rw [← HW.out]; exact (Blk.new w _ _).alloc _
  have b2 : Blk W (w.heap.size + 1) 24 #[.int .i64 ob, .int .i64 ib, .slice KB kb.length cb] := by rw [← HW.out]; exact Blk.new' (by simp)
  have hkaW := hka.upd hU (fun _ _ _ f => f)
  have hkbW := hkb.upd hU (fun _ _ _ f => f)
  have hM := h.non hU
  have d2 := b1.cell 2
  have f2 := b2.cell 2
  have e0 := HW.out
  have HA := Lib.hid oka
  have HB := Lib.hid okb
  clear oka okb hka hkb h b1 b2
  unfold gp
  by_cases hne : ka.length = kb.length
  · have hkl : kb.length ≤ 100000000000 := by omega
    have HN := Lib.hid hne
    have t1 : ((ka.length : Int) != (kb.length : Int)) = false := by simp [hne]
    clear hne
    go_enter Try.func49, Try.ntmps49
    go_wp2_with fail
    go_loopg [7, 18] ka.length (fun g _ i wr => ∃ k n : Nat, Hid (g = ka.length - k) ∧ k ≤ ka.length ∧ i = .int .i64 k ∧ Hid (ckids G.c (ka.take k) = ckids G.c (kb.take k)) ∧ wr = W.drewN n)
    case atStart => exact ⟨0, 0, rfl, by omega, rfl, rfl, rfl⟩
    case round =>
      obtain ⟨k, n, Hg, hk, rfl, Hp, rfl⟩ := hrel
      by_cases hlt : k < ka.length
      · have hlt2 : k < kb.length := by rw [← HN.out]; exact hlt
        obtain ⟨xb, xo, rfl, _, hxb, hx⟩ := hkaW.at_ hlt
        obtain ⟨yb, yo, rfl, _, hyb, hy⟩ := hkbW.at_ hlt2
        have HT := Lib.hid (ckids_take G.c ka k hlt)
        have HT2 := Lib.hid (ckids_take G.c kb k hlt2)
        have HNE : Hid (G.c ka[k].toNat ≠ G.c kb[k].toNat → decide (ckids G.c ka = ckids G.c kb) = false) := by
          intro h; rw [decide_eq_false_iff_not]; exact fun he => h (ckids_at he hlt hlt2)
        obtain ⟨x0, x1⟩ := okKids_get HA.out hlt
        obtain ⟨y0, y1⟩ := okKids_get HB.out hlt2
        obtain ⟨x, ex⟩ := Int.eq_ofNat_of_zero_le x0
        obtain ⟨y, ey⟩ := Int.eq_ofNat_of_zero_le y0
        rw [ex] at hx HT HNE x1
        rw [ey] at hy HT2 HNE y1
        simp only [Int.toNat_natCast] at HT HT2 HNE
        clear x0 y0 ex ey
        have hxn : x < G.L.length := by omega
        have hyn : y < G.L.length := by omega
        obtain ⟨fb, ef, hfb, hcx⟩ := hM.fat hxn
        obtain ⟨fb', ef', _, hcy⟩ := hM.fat hyn
        obtain rfl : fb = fb' := by rw [ef] at ef'; injection ef' with e; injection e
        have c2 := hM.c2
        rw [ef] at c2
        clear ef ef' x1 y1
        generalize G.c x = p at *
        generalize G.c y = q at *
        generalize G.L.length = m at *
        by_cases he : p = q
        · subst he
          have t2 : ((p : Int) != (p : Int)) = false := by simp
          clear HNE
          go_wp2_with fail
          go_quiet (fail)
          go_wp2_with fail
          go_roundg (ka.length - (k + 1))
          case measure => rw [Hg.out]; omega
          case rel => exact ⟨k + 1, _, rfl, by omega, by go_num, by show _ = _; rw [HT.out, HT2.out, Hp.out], rfl⟩
        · have hf := Lib.hid (HNE.out he)
          have t2 : ((p : Int) != (q : Int)) = true := by simp; omega
          clear he HNE
          go_wp2_with fail
          go_quiet (fail)
          go_wp2_with fail
          go_ret
          exact ⟨by rw [hf.out]; rfl, (hU.drewN _).drewN _⟩
      · obtain rfl : ka.length = k := by omega
        have hf : Hid (decide (ckids G.c ka = ckids G.c kb) = true) := by
          have := Hp.out
          rw [List.take_length, HN.out, List.take_length] at this
          exact decide_eq_true this
        go_wp2_with fail
        go_ret
        exact ⟨by rw [hf.out]; rfl, hU.drewN _⟩
  · have HD : Hid (decide (ckids G.c ka = ckids G.c kb) = false) := by
      show _ = _
      rw [decide_eq_false_iff_not]
      intro he
      have := congrArg List.length he
      simp [ckids] at this
      exact hne this
    have t1 : ((ka.length : Int) != (kb.length : Int)) = true := by simp; omega
    clear hne hM
    go_enter Try.func49, Try.ntmps49
    go_wp2_with fail
    go_ret
    exact ⟨by rw [HD.out]; rfl, hU⟩

/-- The smallest members of all classes. -/
def classesTo (c : Nat → Nat) (k : Nat) : List Int := ((List.range k).filter fun i => c i == i).map fun (i : Nat) => (i : Int)
theorem classesTo_succ (c : Nat → Nat) (k : Nat) : classesTo c (k + 1) = if c k = k then classesTo c k ++ [(k : Int)] else classesTo c k := by
  unfold classesTo
  rw [List.range_succ, List.filter_append, List.map_append]
  by_cases h : c k = k
  · rw [if_pos h]; simp [h]
  · rw [if_neg h]; simp [h]
theorem classesTo_len (c : Nat → Nat) (k : Nat) : (classesTo c k).length ≤ k := by
  unfold classesTo
  rw [List.length_map]
  exact Nat.le_trans (List.length_filter_le _ _) (by simp)

set_option maxRecDepth 100000 in
set_option maxHeartbeats 1000000 in
theorem gClasses_c (w : World) (ρ : Nat → Role) (gb : Nat) (a : GA) (G : EG) (h : GM w ρ gb a G) (hn : G.L.length ≤ 2000) :
    Calls Try.prog 18 #[gp gb] w fun e w' => ∃ A c, e = .returned (.slice A (classesTo G.c G.L.length).length c) ∧ Own w' 3 1 A (classesTo G.c G.L.length).length c (icells (classesTo G.c G.L.length)) ∧ (∀ k, At A k → w.heap.size ≤ k) ∧ Upd Non w w' := by
  have H := Lib.hid h
  have c2 := h.c2
  have hgb := h.blk.lt
  obtain ⟨n, Hn⟩ := nm G.L.length
  rw [Hn.out] at c2 hn ⊢
  obtain ⟨fA, HfA⟩ := nm a.f
  rw [HfA.out] at c2
  unfold gp
  clear h
  go_enter Try.func18, Try.ntmps18
  go_wp2_with fail
  go_loopg [3, 4, 5, 11] n (fun g v _ _ i wr => ∃ (k m c : Nat) (A : Option Addr), Hid (g = n - k) ∧ k ≤ n ∧ i = .int .i64 k ∧ v = .slice A m c ∧ Hid (m = (classesTo G.c k).length) ∧ m ≤ k ∧ Own wr 3 1 A m c (icells (classesTo G.c k)) ∧ Hid (∀ j, At A j → w.heap.size ≤ j) ∧ Upd Non w wr)
  case atStart => exact ⟨0, 0, 0, none, rfl, by omega, rfl, rfl, rfl, by omega, Own.none_, fun j hj => (At.none_ hj).elim, Upd.refl⟩
  case round =>
    obtain ⟨k, m, c, A, Hg, hk, rfl, rfl, Hm, hm, ho, HA, hu⟩ := hrel
    by_cases hlt : k < n
    · have hkL : k < G.L.length := by rw [Hn.out]; exact hlt
      have hM := H.out.non hu
      obtain ⟨fb, ef, hfb, hcx⟩ := hM.fat hkL
      have HS := Lib.hid (classesTo_succ G.c k)
      rw [HfA.out] at ef
      subst ef
      clear hM c2
      by_cases hc : G.c k = k
      · rw [if_pos hc] at HS
        rw [hc] at hcx
        have t1 : ((k : Int) == (k : Int)) = true := by simp
        clear hc
        go_wp2_with (at_builtin; refine wpList_app rfl rfl T_ints' rfl (ho.alloc _) rfl (Sl.new _ _ _) rfl (by simp [Value.oneCell']) (by simp only [maxLen]; omega) (by omega) ?_; intro A3 c3 w3 ho3 hu3 hat3)
        go_roundg (n - (k + 1))
        case measure => rw [Hg.out]; omega
        case rel =>
          refine ⟨k + 1, m + 1, c3, A3, rfl, by omega, by go_num, rfl, by show _ = _; rw [HS.out, Hm.out]; simp, by omega, by rw [HS.out, icells_snoc]; exact ho3, fun j hj => ?_, (hu.alloc _).trans hu3 (fun i hi h => by have := HA.out i h; omega)⟩
          rcases hat3 j hj with h | h
          · exact HA.out j h
          · have := hu.size; simp at h; omega
      · rw [if_neg hc] at HS
        have t1 : ((k : Int) == (G.c k : Int)) = false := by simp; omega
        generalize G.c k = x at *
        clear hc
        go_wp2_with fail
        go_roundg (n - (k + 1))
        case measure => rw [Hg.out]; omega
        case rel => exact ⟨k + 1, m, c, A, rfl, by omega, by go_num, rfl, by show _ = _; rw [HS.out, Hm.out], by omega, by rw [HS.out]; exact ho, HA, hu⟩
    · obtain rfl : n = k := by omega
      go_wp2_with fail
      go_ret
      exact ⟨A, c, by rw [← Hm.out]; rfl, by rw [← Hm.out]; exact ho, HA.out, hu⟩

/-- The members that are not congruent to a smaller member. -/
def seenB (c : Nat → Nat) (L : List Nd) (l : List Int) (s : ByteArray) : Bool := l.any fun k => decide (ck c (L.getD k.toNat nd0) = s)
def distTo (c : Nat → Nat) (L : List Nd) (l : List Int) : Nat → List Int
  | 0 => []
  | j + 1 => bif seenB c L (l.take j) (ck c (L.getD (l.getD j 0).toNat nd0)) then distTo c L l j else distTo c L l j ++ [l.getD j 0]
theorem distTo_len (c : Nat → Nat) (L : List Nd) (l : List Int) : ∀ j, (distTo c L l j).length ≤ j
  | 0 => by simp [distTo]
  | j + 1 => by
    have := distTo_len c L l j
    unfold distTo
    cases seenB c L (l.take j) (ck c (L.getD (l.getD j 0).toNat nd0)) with
    | true => simp; omega
    | false => simp; omega
def seenV (c : Nat → Nat) (L : List Nd) (l : List Int) : ByteArray → Option Value := fun s => if seenB c L l s then some (.bool true) else none
theorem seenB_snoc (c : Nat → Nat) (L : List Nd) (l : List Int) (k : Int) (s : ByteArray) : seenB c L (l ++ [k]) s = (seenB c L l s || decide (ck c (L.getD k.toNat nd0) = s)) := by simp [seenB]
theorem seenV_set (c : Nat → Nat) (L : List Nd) (l : List Int) (k : Int) : (fun x => if x = ck c (L.getD k.toNat nd0) then some (Value.bool true) else seenV c L l x) = seenV c L (l ++ [k]) := by
  funext x
  unfold seenV
  rw [seenB_snoc]
  generalize ck c (L.getD k.toNat nd0) = q at *
  by_cases e : x = q
  · subst e; simp
  · have e' : ¬ q = x := fun h => e h.symm
    simp [e, e']
theorem seenV_same {c : Nat → Nat} {L : List Nd} {l : List Int} {k : Int} (h : seenB c L l (ck c (L.getD k.toNat nd0)) = true) : seenV c L (l ++ [k]) = seenV c L l := by
  funext x
  unfold seenV
  rw [seenB_snoc]
  generalize ck c (L.getD k.toNat nd0) = q at *
  by_cases e : q = x
  · subst e; simp [h]
  · simp [e]
theorem zeroBool (w : World) : (zeroValue 4).run Try.prog w = .ok (.bool false) w := by
  have h : (Try.prog.info? 4).bind (·.zero) = some (.bool false) := by kernel_rfl
  cases hi : Try.prog.info? 4 with
  | none => rw [hi] at h; cases h
  | some i => rw [hi] at h; simp at h; simp [zeroValue, typeInfo, hi, h]
end Go.Proofs.Ytigambcefdeaoaa
