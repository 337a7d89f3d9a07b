/-
  What congruent, Class, Classes and Distinct of an e-graph do.
  What Class and Distinct of an e-graph do.
-/
import Derived.Test.YtigambcefdeaoaaFGr
namespace Go.Proofs.Ytigambcefdeaoaa
open Go.RowKit

/-- The operation that has come up, out of its region. -/
theorem put_y : (∀ (l : List Oper) (i : Nat) (h : i < l.toArray.size), l.toArray[i]'h = l[i]'(by simpa using h)) ∧ (∀ (x : Oper) (l : List Oper) (h : 0 < (x :: l).length), (x :: l)[0]'h = x) ∧
    (∀ (x : Oper) (l : List Oper) (n : Nat) (h : n + 1 < (x :: l).length), (x :: l)[n + 1]'h = l[n]'(by simpa using h)) := ⟨fun _ _ _ => by simp, fun _ _ _ => rfl, fun _ _ _ _ => rfl⟩
theorem ckids_take (c : Nat → Nat) (ks : List Int) (k : Nat) (h : k < ks.length) : ckids c (ks.take (k + 1)) = ckids c (ks.take k) ++ [(c ks[k].toNat : Int)] := ckids_snoc c ks k h
theorem ckids_at {c : Nat → Nat} {ka kb : List Int} (h : ckids c ka = ckids c kb) {k : Nat} (ha : k < ka.length) (hb : k < kb.length) : c ka[k].toNat = c kb[k].toNat := by
  have h1 : (ckids c ka)[k]? = (ckids c kb)[k]? := by rw [h]
  simp [ckids, ha, hb] at h1
  omega

set_option maxRecDepth 100000 in
set_option maxHeartbeats 1000000 in
theorem gCongruent_c (w : World) (ρ : Nat → Role) (gb : Nat) (a : GA) (G : EG) (h : GM w ρ gb a G) (oa ia ob ib : Int) (ka kb : List Int) (KA KB : Option Addr) (ca cb : Nat) (F F2 : Nat → Prop) (hka : Ints w F KA ka) (hkb : Ints w F2 KB kb) (hna : ka.length ≤ 100000000000)
    (oka : okKids G.L.length ka = true) (okb : okKids G.L.length kb = true) :
    Calls Try.prog 49 #[gp gb, .agg #[.int .i64 oa, .int .i64 ia, .slice KA ka.length ca], .agg #[.int .i64 ob, .int .i64 ib, .slice KB kb.length cb]] w fun e w' => e = .returned (.bool (decide (ckids G.c ka = ckids G.c kb))) ∧ Upd Non w w' := by
  obtain ⟨W, HW⟩ := nm ((w.alloc (.cells #[.int .i64 oa, .int .i64 ia, .slice KA ka.length ca] 24)).alloc (.cells #[.int .i64 ob, .int .i64 ib, .slice KB kb.length cb] 24))
  have hU : Upd Non w W := by rw [← HW.out]; exact (Upd.refl.alloc _).alloc _
  have b1 : Blk W w.heap.size 24 #[.int .i64 oa, .int .i64 ia, .slice KA ka.length ca] := by rw [← HW.out]; exact (Blk.new w _ _).alloc _
  have b2 : Blk W (w.heap.size + 1) 24 #[.int .i64 ob, .int .i64 ib, .slice KB kb.length cb] := by rw [← HW.out]; exact Blk.new' (by simp)
  have hkaW := hka.upd hU (fun _ _ _ f => f)
  have hkbW := hkb.upd hU (fun _ _ _ f => f)
  have hM := h.non hU
  have d2 := b1.cell 2
  have f2 := b2.cell 2
  have e0 := HW.out
  have HA := Lib.hid oka
  have HB := Lib.hid okb
  clear oka okb hka hkb h b1 b2
  unfold gp
  by_cases hne : ka.length = kb.length
  · have hkl : kb.length ≤ 100000000000 := by omega
    have HN := Lib.hid hne
    have t1 : ((ka.length : Int) != (kb.length : Int)) = false := by simp [hne]
    clear hne
    go_enter Try.func49, Try.ntmps49
    go_wp2_with fail
    go_loopg [7, 18] ka.length (fun g _ i wr => ∃ k n : Nat, Hid (g = ka.length - k) ∧ k ≤ ka.length ∧ i = .int .i64 k ∧ Hid (ckids G.c (ka.take k) = ckids G.c (kb.take k)) ∧ wr = W.drewN n)
    case atStart => exact ⟨0, 0, rfl, by omega, rfl, rfl, rfl⟩
    case round =>
      obtain ⟨k, n, Hg, hk, rfl, Hp, rfl⟩ := hrel
      by_cases hlt : k < ka.length
      · have hlt2 : k < kb.length := by rw [← HN.out]; exact hlt
        obtain ⟨xb, xo, rfl, _, hxb, hx⟩ := hkaW.at_ hlt
        obtain ⟨yb, yo, rfl, _, hyb, hy⟩ := hkbW.at_ hlt2
        have HT := Lib.hid (ckids_take G.c ka k hlt)
        have HT2 := Lib.hid (ckids_take G.c kb k hlt2)
        have HNE : Hid (G.c ka[k].toNat ≠ G.c kb[k].toNat → decide (ckids G.c ka = ckids G.c kb) = false) := by
          intro h; rw [decide_eq_false_iff_not]; exact fun he => h (ckids_at he hlt hlt2)
        obtain ⟨x0, x1⟩ := okKids_get HA.out hlt
        obtain ⟨y0, y1⟩ := okKids_get HB.out hlt2
        obtain ⟨x, ex⟩ := Int.eq_ofNat_of_zero_le x0
        obtain ⟨y, ey⟩ := Int.eq_ofNat_of_zero_le y0
        rw [ex] at hx HT HNE x1
        rw [ey] at hy HT2 HNE y1
        simp only [Int.toNat_natCast] at HT HT2 HNE
        clear x0 y0 ex ey
        have hxn : x < G.L.length := by omega
        have hyn : y < G.L.length := by omega
        obtain ⟨fb, ef, hfb, hcx⟩ := hM.fat hxn
        obtain ⟨fb', ef', _, hcy⟩ := hM.fat hyn
        obtain rfl : fb = fb' := by rw [ef] at ef'; injection ef' with e; injection e
        have c2 := hM.c2
        rw [ef] at c2
        clear ef ef' x1 y1
        generalize G.c x = p at *
        generalize G.c y = q at *
        generalize G.L.length = m at *
        by_cases he : p = q
        · subst he
          have t2 : ((p : Int) != (p : Int)) = false := by simp
          clear HNE
          go_wp2_with fail
          go_quiet (fail)
          go_wp2_with fail
          go_roundg (ka.length - (k + 1))
          case measure => rw [Hg.out]; omega
          case rel => exact ⟨k + 1, _, rfl, by omega, by go_num, by show _ = _; rw [HT.out, HT2.out, Hp.out], rfl⟩
        · have hf := Lib.hid (HNE.out he)
          have t2 : ((p : Int) != (q : Int)) = true := by simp; omega
          clear he HNE
          go_wp2_with fail
          go_quiet (fail)
          go_wp2_with fail
          go_ret
          exact ⟨by rw [hf.out]; rfl, (hU.drewN _).drewN _⟩
      · obtain rfl : ka.length = k := by omega
        have hf : Hid (decide (ckids G.c ka = ckids G.c kb) = true) := by
          have := Hp.out
          rw [List.take_length, HN.out, List.take_length] at this
          exact decide_eq_true this
        go_wp2_with fail
        go_ret
        exact ⟨by rw [hf.out]; rfl, hU.drewN _⟩
  · have HD : Hid (decide (ckids G.c ka = ckids G.c kb) = false) := by
      show _ = _
      rw [decide_eq_false_iff_not]
      intro he
      have := congrArg List.length he
      simp [ckids] at this
      exact hne this
    have t1 : ((ka.length : Int) != (kb.length : Int)) = true := by simp; omega
    clear hne hM
    go_enter Try.func49, Try.ntmps49
    go_wp2_with fail
    go_ret
    exact ⟨by rw [HD.out]; rfl, hU⟩

/-- The smallest members of all classes. -/
def classesTo (c : Nat → Nat) (k : Nat) : List Int := ((List.range k).filter fun i => c i == i).map fun (i : Nat) => (i : Int)
theorem classesTo_succ (c : Nat → Nat) (k : Nat) : classesTo c (k + 1) = if c k = k then classesTo c k ++ [(k : Int)] else classesTo c k := by
  unfold classesTo
  rw [List.range_succ, List.filter_append, List.map_append]
  by_cases h : c k = k
  · rw [if_pos h]; simp [h]
  · rw [if_neg h]; simp [h]
theorem classesTo_len (c : Nat → Nat) (k : Nat) : (classesTo c k).length ≤ k := by
  unfold classesTo
  rw [List.length_map]
  exact Nat.le_trans (List.length_filter_le _ _) (by simp)

set_option maxRecDepth 100000 in
set_option maxHeartbeats 1000000 in
theorem gClasses_c (w : World) (ρ : Nat → Role) (gb : Nat) (a : GA) (G : EG) (h : GM w ρ gb a G) (hn : G.L.length ≤ 2000) :
    Calls Try.prog 18 #[gp gb] w fun e w' => ∃ A c, e = .returned (.slice A (classesTo G.c G.L.length).length c) ∧ Own w' 3 1 A (classesTo G.c G.L.length).length c (icells (classesTo G.c G.L.length)) ∧ (∀ k, At A k → w.heap.size ≤ k) ∧ Upd Non w w' := by
  have H := Lib.hid h
  have c2 := h.c2
  have hgb := h.blk.lt
  obtain ⟨n, Hn⟩ := nm G.L.length
  rw [Hn.out] at c2 hn ⊢
  obtain ⟨fA, HfA⟩ := nm a.f
  rw [HfA.out] at c2
  unfold gp
  clear h
  go_enter Try.func18, Try.ntmps18
  go_wp2_with fail
  go_loopg [3, 4, 5, 11] n (fun g v _ _ i wr => ∃ (k m c : Nat) (A : Option Addr), Hid (g = n - k) ∧ k ≤ n ∧ i = .int .i64 k ∧ v = .slice A m c ∧ Hid (m = (classesTo G.c k).length) ∧ m ≤ k ∧ Own wr 3 1 A m c (icells (classesTo G.c k)) ∧ Hid (∀ j, At A j → w.heap.size ≤ j) ∧ Upd Non w wr)
  case atStart => exact ⟨0, 0, 0, none, rfl, by omega, rfl, rfl, rfl, by omega, Own.none_, fun j hj => (At.none_ hj).elim, Upd.refl⟩
  case round =>
    obtain ⟨k, m, c, A, Hg, hk, rfl, rfl, Hm, hm, ho, HA, hu⟩ := hrel
    by_cases hlt : k < n
    · have hkL : k < G.L.length := by rw [Hn.out]; exact hlt
      have hM := H.out.non hu
      obtain ⟨fb, ef, hfb, hcx⟩ := hM.fat hkL
      have HS := Lib.hid (classesTo_succ G.c k)
      rw [HfA.out] at ef
      subst ef
      clear hM c2
      by_cases hc : G.c k = k
      · rw [if_pos hc] at HS
        rw [hc] at hcx
        have t1 : ((k : Int) == (k : Int)) = true := by simp
        clear hc
        go_wp2_with (at_builtin; refine wpList_app rfl rfl T_ints' rfl (ho.alloc _) rfl (Sl.new _ _ _) rfl (by simp [Value.oneCell']) (by simp only [maxLen]; omega) (by omega) ?_; intro A3 c3 w3 ho3 hu3 hat3)
        go_roundg (n - (k + 1))
        case measure => rw [Hg.out]; omega
        case rel =>
          refine ⟨k + 1, m + 1, c3, A3, rfl, by omega, by go_num, rfl, by show _ = _; rw [HS.out, Hm.out]; simp, by omega, by rw [HS.out, icells_snoc]; exact ho3, fun j hj => ?_, (hu.alloc _).trans hu3 (fun i hi h => by have := HA.out i h; omega)⟩
          rcases hat3 j hj with h | h
          · exact HA.out j h
          · have := hu.size; simp at h; omega
      · rw [if_neg hc] at HS
        have t1 : ((k : Int) == (G.c k : Int)) = false := by simp; omega
        generalize G.c k = x at *
        clear hc
        go_wp2_with fail
        go_roundg (n - (k + 1))
        case measure => rw [Hg.out]; omega
        case rel => exact ⟨k + 1, m, c, A, rfl, by omega, by go_num, rfl, by show _ = _; rw [HS.out, Hm.out], by omega, by rw [HS.out]; exact ho, HA, hu⟩
    · obtain rfl : n = k := by omega
      go_wp2_with fail
      go_ret
      exact ⟨A, c, by rw [← Hm.out]; rfl, by rw [← Hm.out]; exact ho, HA.out, hu⟩

/-- The members that are not congruent to a smaller member. -/
def seenB (c : Nat → Nat) (L : List Nd) (l : List Int) (s : ByteArray) : Bool := l.any fun k => decide (ck c (L.getD k.toNat nd0) = s)
def distTo (c : Nat → Nat) (L : List Nd) (l : List Int) : Nat → List Int
  | 0 => []
  | j + 1 => bif seenB c L (l.take j) (ck c (L.getD (l.getD j 0).toNat nd0)) then distTo c L l j else distTo c L l j ++ [l.getD j 0]
theorem distTo_len (c : Nat → Nat) (L : List Nd) (l : List Int) : ∀ j, (distTo c L l j).length ≤ j
  | 0 => by simp [distTo]
  | j + 1 => by
    have := distTo_len c L l j
    unfold distTo
    cases seenB c L (l.take j) (ck c (L.getD (l.getD j 0).toNat nd0)) with
    | true => simp; omega
    | false => simp; omega
def seenV (c : Nat → Nat) (L : List Nd) (l : List Int) : ByteArray → Option Value := fun s => if seenB c L l s then some (.bool true) else none
theorem seenB_snoc (c : Nat → Nat) (L : List Nd) (l : List Int) (k : Int) (s : ByteArray) : seenB c L (l ++ [k]) s = (seenB c L l s || decide (ck c (L.getD k.toNat nd0) = s)) := by simp [seenB]
theorem seenV_set (c : Nat → Nat) (L : List Nd) (l : List Int) (k : Int) : (fun x => if x = ck c (L.getD k.toNat nd0) then some (Value.bool true) else seenV c L l x) = seenV c L (l ++ [k]) := by
  funext x
  unfold seenV
  rw [seenB_snoc]
  generalize ck c (L.getD k.toNat nd0) = q at *
  by_cases e : x = q
  · subst e; simp
  · have e' : ¬ q = x := fun h => e h.symm
    simp [e, e']
theorem seenV_same {c : Nat → Nat} {L : List Nd} {l : List Int} {k : Int} (h : seenB c L l (ck c (L.getD k.toNat nd0)) = true) : seenV c L (l ++ [k]) = seenV c L l := by
  funext x
  unfold seenV
  rw [seenB_snoc]
  generalize ck c (L.getD k.toNat nd0) = q at *
  by_cases e : q = x
  · subst e; simp [h]
  · simp [e]
theorem zeroBool (w : World) : (zeroValue 4).run Try.prog w = .ok (.bool false) w := by
  have h : (Try.prog.info? 4).bind (·.zero) = some (.bool false) := by kernel_rfl
  cases hi : Try.prog.info? 4 with
  | none => rw [hi] at h; cases h
  | some i => rw [hi] at h; simp at h; simp [zeroValue, typeInfo, hi, h]
end Go.Proofs.Ytigambcefdeaoaa

namespace Go.Proofs.Ytigambcefdeaoaa
open Go.RowKit

/-- The members of the class of i. -/
def classF (G : EG) (i : Int) : List Int := if 0 ≤ i ∧ i < G.L.length then memL G.L.length G.c (G.c i.toNat) else []
theorem memL_len (n : Nat) (c : Nat → Nat) (i : Nat) : (memL n c i).length ≤ n := by
  unfold memL
  rw [List.length_map]
  exact Nat.le_trans (List.length_filter_le _ _) (by simp)
theorem classF_len (G : EG) (i : Int) : (classF G i).length ≤ G.L.length := by
  unfold classF
  split
  · exact memL_len _ _ _
  · simp

theorem GMm.at_ {w : World} {ρ : Nat → Role} {A : Option Addr} {cp n : Nat} {c : Nat → Nat} (h : GMm w ρ A cp n c) {i : Nat} (hi : i < n) : ∃ b MA mc, A = some ⟨b, 0, none⟩ ∧ b < w.heap.size ∧ w.cell? ⟨b, i, none⟩ = some (.slice MA (memL n c i).length mc) ∧ Ints w (fun k => ρ k = .ins) MA (memL n c i) ∧ (memL n c i).length ≤ mc := by
  obtain ⟨ms, h1, h2, h3, h4⟩ := h
  obtain ⟨b, e⟩ := h2.some_ (by omega)
  rw [e] at h2
  have hi' : i < (scells n c ms).length := by simp [scells]; omega
  have hc := h2.cell_ hi'
  refine ⟨b, _, _, e, World.block_lt_of_cell? _ _ hc, ?_, (h4 i hi).1, (h4 i hi).2⟩
  rw [hc]
  simp [scells]

set_option maxRecDepth 100000 in
set_option maxHeartbeats 1000000 in
theorem gClass_c (w : World) (ρ : Nat → Role) (gb : Nat) (a : GA) (G : EG) (h : GM w ρ gb a G) (hnm : Named G.L.length G.c) (hn : G.L.length ≤ 2000) (i : Int) :
    Calls Try.prog 19 #[gp gb, .int .i64 i] w fun e w' => ∃ A c, e = .returned (.slice A (classF G i).length c) ∧ Own w' 3 1 A (classF G i).length c (icells (classF G i)) ∧ (∀ k, At A k → w.heap.size ≤ k) ∧ Upd Non w w' := by
  have C1 := Lib.hid (gExists_c w ρ gb a G h i)
  unfold gp at *
  by_cases hi : 0 ≤ i ∧ i < G.L.length
  · have HF : Hid (classF G i = memL G.L.length G.c (G.c i.toNat)) := by show _ = _; unfold classF; rw [if_pos hi]
    obtain ⟨k, rfl⟩ := Int.eq_ofNat_of_zero_le hi.1
    have hk : k < G.L.length := by omega
    simp only [hi] at C1
    obtain ⟨b, e, hb, hc⟩ := h.fat hk
    have c2 := h.c2
    rw [e] at c2
    rw [Int.toNat_natCast] at HF
    have hxn := hnm.lt hk
    obtain ⟨b3, MA, mc, e3, hb3, hc3, hiv, hmc⟩ := h.m.at_ hxn
    have c3 := h.c3
    rw [e3] at c3
    have hml := memL_len G.L.length G.c (G.c k)
    generalize G.c k = x at *
    rw [HF.out]
    clear e e3 HF hi h
    generalize memL G.L.length G.c x = M at *
    go_enter Try.func19, Try.ntmps19
    go_wp2_with fail
    refine C1.out.mono ?_
    rintro e w' ⟨rfl, rfl⟩
    go_wp2_with fail
    have q2 : w.drew.cell? ⟨gb, 2, none⟩ = some (.slice (some ⟨b, 0, none⟩) G.L.length a.fc) := c2
    have q3 : w.drew.cell? ⟨gb, 3, none⟩ = some (.slice (some ⟨b3, 0, none⟩) G.L.length a.mc) := c3
    have q4 : w.drew.cell? ⟨b, k, none⟩ = some (.int .i64 (x : Int)) := hc
    have q5 : w.drew.cell? ⟨b3, x, none⟩ = some (.slice MA M.length mc) := hc3
    have i0 : (0 : Int) ≤ (k : Int) := by omega
    have i1 : (k : Int) < (G.L.length : Int) := by omega
    have i2 : (0 : Int) ≤ (x : Int) := by omega
    have i3 : (x : Int) < (G.L.length : Int) := by omega
    refine wp_region_held_drew (S := fun w' => w'.cell? ⟨gb, 2, none⟩ = some (.slice (some ⟨b, 0, none⟩) G.L.length a.fc) ∧ w'.cell? ⟨gb, 3, none⟩ = some (.slice (some ⟨b3, 0, none⟩) G.L.length a.mc) ∧ w'.cell? ⟨b, k, none⟩ = some (.int .i64 (x : Int)) ∧ w'.cell? ⟨b3, x, none⟩ = some (.slice MA M.length mc)) (by kernel_rfl) ⟨q2, q3, q4, q5⟩ (fun hHeld => ?_)
    refine wpAnyH_take (i := 0) (v := ?_) rfl (by kernel_rfl) (by kernel_rfl) (by kernel_rfl) (fun _ _ _ h => h) (Or.inl ⟨by rfl, ?_⟩) (by assumption) ?_
    rotate_left
    · intro w hSw; (try dsimp only at hSw); go_simp; try with_reducible rfl
    try simp only [put_y]
    try simp only [Act.put]
    try simp only [put_z]
    refine wpAnyH_take (i := 1) (v := ?_) rfl (by kernel_rfl) (by kernel_rfl) (by kernel_rfl) (fun _ _ _ h => h) (Or.inl ⟨by rfl, ?_⟩) (by assumption) ?_
    rotate_left
    · intro w hSw; (try dsimp only at hSw); go_simp; try with_reducible rfl
    try simp only [put_y]
    try simp only [Act.put]
    try simp only [put_z]
    refine wpAnyH_take (i := 2) (v := ?_) rfl (by kernel_rfl) (by kernel_rfl) (by kernel_rfl) (fun _ _ _ h => h) (Or.inl ⟨by rfl, ?_⟩) (by assumption) ?_
    rotate_left
    · intro w hSw; (try dsimp only at hSw); go_simp; try with_reducible rfl
    try simp only [put_y]
    try simp only [Act.put]
    try simp only [put_z]
    refine wpAnyH_take (i := 3) (v := ?_) rfl (by kernel_rfl) (by kernel_rfl) (by kernel_rfl) (fun _ _ _ h => h) (Or.inl ⟨by rfl, ?_⟩) (by assumption) ?_
    rotate_left
    · intro w hSw; (try dsimp only at hSw); go_simp; try with_reducible rfl
    try simp only [put_y]
    try simp only [Act.put]
    try simp only [put_z]
    refine wpAnyH_take (i := 4) (v := ?_) rfl (by kernel_rfl) (by kernel_rfl) (by kernel_rfl) (fun _ _ _ h => h) (Or.inl ⟨by rfl, ?_⟩) (by assumption) ?_
    rotate_left
    · intro w hSw; (try dsimp only at hSw); go_simp; try with_reducible rfl
    try simp only [put_y]
    try simp only [Act.put]
    try simp only [put_z]
    refine wpAnyH_take (i := 5) (v := ?_) rfl (by kernel_rfl) (by kernel_rfl) (by kernel_rfl) (fun _ _ _ h => h) (Or.inl ⟨by rfl, ?_⟩) (by assumption) ?_
    rotate_left
    · intro w hSw; (try dsimp only at hSw); go_simp; try with_reducible rfl
    try simp only [put_y]
    try simp only [Act.put]
    try simp only [put_z]
    refine wpAnyH_take (i := 6) (v := ?_) rfl (by kernel_rfl) (by kernel_rfl) (by kernel_rfl) (fun _ _ _ h => h) (Or.inl ⟨by rfl, ?_⟩) (by assumption) ?_
    rotate_left
    · intro w hSw; (try dsimp only at hSw); go_simp; try with_reducible rfl
    try simp only [put_y]
    try simp only [Act.put]
    try simp only [put_z]
    refine wpAnyH_take (i := 7) (v := ?_) rfl (by kernel_rfl) (by kernel_rfl) (by kernel_rfl) (fun _ _ _ h => h) (Or.inl ⟨by rfl, ?_⟩) (by assumption) ?_
    rotate_left
    · intro w hSw; (try dsimp only at hSw); go_simp; try with_reducible rfl
    try simp only [put_y]
    try simp only [Act.put]
    try simp only [put_z]
    refine wpAnyH_take (i := 8) (v := ?_) rfl (by kernel_rfl) (by kernel_rfl) (by kernel_rfl) (fun _ _ _ h => h) (Or.inl ⟨by rfl, ?_⟩) (by assumption) ?_
    rotate_left
    · intro w hSw; (try dsimp only at hSw); go_simp; try with_reducible rfl
    try simp only [put_y]
    try simp only [Act.put]
    try simp only [put_z]
    refine wpAnyH_take (i := 9) (v := ?_) rfl (by kernel_rfl) (by kernel_rfl) (by kernel_rfl) (fun _ _ _ h => h) (Or.inl ⟨by rfl, ?_⟩) (by assumption) ?_
    rotate_left
    · intro w hSw; (try dsimp only at hSw); go_simp; try with_reducible rfl
    try simp only [put_y]
    try simp only [Act.put]
    try simp only [put_z]
    refine wpAnyH_take (i := 10) (v := ?_) rfl (by kernel_rfl) (by kernel_rfl) (by kernel_rfl) (fun _ _ _ h => h) (Or.inl ⟨by rfl, ?_⟩) (by assumption) ?_
    rotate_left
    · intro w hSw; (try dsimp only at hSw); go_simp; try with_reducible rfl
    try simp only [put_y]
    try simp only [Act.put]
    try simp only [put_z]
    refine wpAnyH_take (i := 11) (v := ?_) rfl (by kernel_rfl) (by kernel_rfl) (by kernel_rfl) (fun _ _ _ h => h) (Or.inl ⟨by rfl, ?_⟩) (by assumption) ?_
    rotate_left
    · intro w hSw; (try dsimp only at hSw); go_simp; try with_reducible rfl
    try simp only [put_y]
    try simp only [Act.put]
    try simp only [put_z]
    refine wpAnyH_take (i := 12) (v := ?_) rfl (by kernel_rfl) (by kernel_rfl) (by kernel_rfl) (fun _ _ _ h => h) (Or.inl ⟨by rfl, ?_⟩) (by assumption) ?_
    rotate_left
    · intro w hSw; (try dsimp only at hSw); go_simp; try with_reducible rfl
    try simp only [put_y]
    try simp only [Act.put]
    try simp only [put_z]
    refine wpAnyH_ready (rs := [13]) (by kernel_rfl) (by simp) ?_
    refine AllReadyH.cons rfl (fun K hK => ?_) AllReadyH.nil
    refine step_app (A := none) (n := 0) (c := 0) (by rfl) (by rfl) T_ints' (by rfl) Own.none_ (by rfl) (hiv.upd (Upd.refl.drew (S := Non)) (fun _ _ _ f => f)) (by simp) (icells_one M) (by simp only [maxLen]; omega) (by omega) ?_
    intro A2 c2' w2 ho2 hu2' hat2
    have hu2 : Upd Non w w2 := Upd.refl.drew.trans hu2' (fun _ _ h => At.none_ h)
    have hN : ∀ k, At A2 k → w.heap.size ≤ k := fun k hk => by
      rcases hat2 k hk with h | h
      · exact (At.none_ h).elim
      · simp at h; omega
    rw [Nat.zero_add, List.nil_append] at ho2
    refine hK.out _ _ ?_ (fun hHeld => ?_)
    · exact ⟨cell_upd c2 hu2 (fun f => f), cell_upd c3 hu2 (fun f => f), cell_upd hc hu2 (fun f => f), cell_upd hc3 hu2 (fun f => f)⟩
    clear hK K
    try simp only [put_y]
    try simp only [Act.put]
    try simp only [put_z]
    refine wpAnyH_ready (rs := [14]) (by kernel_rfl) (by simp) ?_
    refine AllReadyH.cons rfl (fun K hK => ?_) AllReadyH.nil
    go_simp
    refine hK.out _ _ ?_ (fun hHeld => ?_)
    · exact ⟨cell_upd c2 hu2 (fun f => f), cell_upd c3 hu2 (fun f => f), cell_upd hc hu2 (fun f => f), cell_upd hc3 hu2 (fun f => f)⟩
    clear hK K
    try simp only [put_y]
    try simp only [Act.put]
    try simp only [put_z]
    refine wpAnyH_done (by kernel_rfl) ?_ _
    go_wp2_with fail
    go_ret
    exact ⟨A2, c2', by simp, ho2, hN, hu2⟩
  · have HF : Hid (classF G i = []) := by show _ = _; unfold classF; rw [if_neg hi]
    simp only [hi, decide_false] at C1
    rw [HF.out]
    clear hi h
    go_enter Try.func19, Try.ntmps19
    go_wp2_with fail
    refine C1.out.mono ?_
    rintro e w' ⟨rfl, rfl⟩
    go_wp2_with fail
    go_ret
    exact ⟨none, 0, rfl, Own.none_, fun k hk => (At.none_ hk).elim, Upd.refl⟩

theorem classF_mem {G : EG} {i x : Int} (h : x ∈ classF G i) : 0 ≤ x ∧ x.toNat < G.L.length := by
  unfold classF at h
  split at h
  · unfold memL at h
    obtain ⟨k, hk, rfl⟩ := List.mem_map.1 h
    have := List.mem_range.1 (List.mem_filter.1 hk).1
    exact ⟨by omega, by simpa using this⟩
  · simp at h

def distF (G : EG) (i : Int) : List Int := distTo G.c G.L (classF G i) (classF G i).length

set_option maxRecDepth 100000 in
set_option maxHeartbeats 2000000 in
theorem gDistinct_c (w : World) (ρ : Nat → Role) (gb : Nat) (a : GA) (G : EG) (h : GM w ρ gb a G) (hg : GWf G) (i : Int) :
    Calls Try.prog 20 #[gp gb, .int .i64 i] w fun e w' => ∃ A c, e = .returned (.slice A (distF G i).length c) ∧ Own w' 3 1 A (distF G i).length c (icells (distF G i)) ∧ (∀ k, At A k → w.heap.size ≤ k) ∧ Upd Non w w' := by
  have hn := hg.wf.small
  have C1 := Lib.hid (gClass_c (w.alloc (.map #[] 0)) ρ gb a G (h.non (Upd.refl.alloc _)) hg.wf.named hn i)
  have hmm := @run_makeMap Try.prog
  have hlen := classF_len G i
  have HME := Lib.hid (fun x => @classF_mem G i x)
  have HD : Hid (distF G i = distTo G.c G.L (classF G i) (classF G i).length) := rfl
  rw [HD.out]
  clear HD
  generalize classF G i = l at *
  have hsm0 := SMap.new w
  have c0 := h.c0
  have H := Lib.hid h
  have HG := Lib.hid hg
  have hlv := h.lv.mono (G := (· < w.heap.size)) (fun k hk _ => hk)
  have hgb := h.blk.lt
  clear h hg
  unfold gp at C1 ⊢
  generalize a.l = lA at *
  generalize a.lc = lc at *
  go_enter Try.func20, Try.ntmps20
  go_wp2_with fail
  refine C1.out.mono ?_
  rintro e w1 ⟨A, c, rfl, ho, HAl, hu1⟩
  have HAl := Lib.hid HAl
  have hs1 := hsm0.upd hu1 (fun f => f)
  have hU1 : Upd Non w w1 := (Upd.refl.alloc (.map #[] 0) (S := Non)).then_non hu1
  have hiv := ho.ints
  have hwl := hs1.lt
  obtain ⟨n, Hn⟩ := nm l.length
  rw [Hn.out] at hlen
  have e0 := Hn.out
  have HSV : Hid ((fun _ => none) = seenV G.c G.L (l.take 0)) := by show _ = _; funext s; simp [seenV, seenB]
  rw [HSV.out] at hs1
  clear C1 HSV ho hsm0
  rw [Hn.out]
  go_wp2_with fail
  go_loopg [5, 8, 9, 15] n (fun g v _ _ iv wr => ∃ (j m c3 : Nat) (A3 : Option Addr), Hid (g = n - j) ∧ j ≤ n ∧ iv = .int .i64 j ∧ v = .slice A3 m c3 ∧ Hid (m = (distTo G.c G.L l j).length) ∧ m ≤ j ∧ Own wr 3 1 A3 m c3 (icells (distTo G.c G.L l j)) ∧ Hid (∀ q, At A3 q → w1.heap.size ≤ q) ∧ SMap wr w.heap.size (seenV G.c G.L (l.take j)) ∧ Upd (fun q => q = w.heap.size) w1 wr)
  case atStart => exact ⟨0, 0, 0, none, rfl, by omega, rfl, rfl, rfl, by omega, Own.none_, fun j hj => (At.none_ hj).elim, hs1, Upd.refl⟩
  case round =>
    obtain ⟨j, m, c3, A3, Hg, hj, rfl, rfl, Hm, hm, ho3, HA3, hsm, hu⟩ := hrel
    have hsz := hU1.size
    have hAl : ∀ k, At A k → w.heap.size + 1 ≤ k := fun k hk => by have := HAl.out k hk; simpa using this
    have hUw : Upd (fun q => q = w.heap.size) w wr := (hU1.mono (fun _ _ f => f.elim)).trans hu (fun _ _ e => e)
    have hM := H.out.far hUw (fun k hk => Classical.byContradiction fun hne => by have := H.out.bnd k hne; omega)
    by_cases hlt : j < n
    · have hlt' : j < l.length := by omega
      obtain ⟨k0, k1⟩ := HME.out _ (List.getElem_mem hlt')
      obtain ⟨ab, ao, rfl, _, hab, hcl⟩ := (hiv.upd hu (fun k _ hk e => by have := hAl k hk; omega)).at_ hlt'
      have HD := Lib.hid (show distTo G.c G.L l (j + 1) = bif seenB G.c G.L (l.take j) (ck G.c (G.L.getD (l.getD j 0).toNat nd0)) then distTo G.c G.L l j else distTo G.c G.L l j ++ [l.getD j 0] from rfl)
      have HT : Hid (l.take (j + 1) = l.take j ++ [l[j]]) := List.take_succ_eq_append_getElem hlt'
      rw [getD_of hlt'] at HD
      generalize l[j] = x at *
      obtain ⟨q, rfl⟩ := Int.eq_ofNat_of_zero_le k0
      have k1 : q < G.L.length := k1
      have HD : Hid (distTo G.c G.L l (j + 1) = bif seenB G.c G.L (l.take j) (ck G.c (G.L.getD q nd0)) then distTo G.c G.L l j else distTo G.c G.L l j ++ [(q : Int)]) := HD
      have HSN : Hid ((fun x => if x = ck G.c (G.L.getD q nd0) then some (Value.bool true) else seenV G.c G.L (l.take j) x) = seenV G.c G.L (l.take (j + 1))) := by show _ = _; rw [HT.out]; exact seenV_set G.c G.L (l.take j) (q : Int)
      have HSO : Hid (seenB G.c G.L (l.take j) (ck G.c (G.L.getD q nd0)) = true → seenV G.c G.L (l.take (j + 1)) = seenV G.c G.L (l.take j)) := by show _ → _ = _; rw [HT.out]; exact @seenV_same G.c G.L (l.take j) (q : Int)
      obtain ⟨lb, lo, rfl, hFl, hlb, h1, h2, KA, kc, h3, hkc, hki⟩ := (hlv.upd hUw (fun k _ hk e => by have : k < w.heap.size := hk; omega)).at_ k1
      have hok := okKids_mono (HG.out.wf.kids q k1) (show q ≤ G.L.length by omega)
      have hkl := HG.out.klen k1
      have HCK : Hid (ck G.c (G.L.getD q nd0) = keyE G.L[q].op G.L[q].imm (ckids G.c G.L[q].kids)) := by show _ = _; rw [getD_of k1]; rfl
      obtain ⟨op, e1⟩ : ∃ op, G.L[q].op = op := ⟨_, rfl⟩
      obtain ⟨imm, e2⟩ : ∃ imm, G.L[q].imm = imm := ⟨_, rfl⟩
      obtain ⟨kids, e3⟩ : ∃ kids, G.L[q].kids = kids := ⟨_, rfl⟩
      rw [e1] at h1 HCK
      rw [e2] at h2 HCK
      rw [e3] at h3 hkc hki HCK hok hkl
      clear e1 e2 e3
      have C1 := Lib.hid (canonKey_c wr ρ gb a G hM op imm kids KA kc (· < w.heap.size) hki (by omega) hok)
      rw [← HCK.out] at C1
      unfold gp at C1
      obtain ⟨s, Hs⟩ := nm (ck G.c (G.L.getD q nd0))
      rw [Hs.out] at C1 HD HSN HSO
      have c0' := cell_upd c0 hUw (by omega)
      have hq3 : (q : Int) < (G.L.length : Int) := by omega
      go_wp2_with fail
      refine C1.out.mono ?_
      rintro e w2 ⟨rfl, hu2⟩
      have hsm2 := hsm.upd hu2 (fun f => f)
      have hlook := hsm2.look1 Try.underlying88 Try.underlying9 (zeroBool _) s
      have hU2 : Upd (fun q => q = w.heap.size) w1 w2 := hu.then_non hu2
      have ho32 := ho3.upd hu2 (fun _ _ f => f)
      clear C1 h1 h2 h3 HCK
      cases hb : seenB G.c G.L (l.take j) s with
      | true =>
        have hv : seenV G.c G.L (l.take j) s = some (.bool true) := by simp [seenV, hb]
        rw [hv] at hlook
        simp only [Option.getD_some] at hlook
        have HD2 : Hid (distTo G.c G.L l (j + 1) = distTo G.c G.L l j) := HD.out.trans (by rw [hb]; rfl)
        rw [← HSO.out hb] at hsm2
        clear hv hb
        go_wp2_with fail
        go_roundg (n - (j + 1))
        case measure => rw [Hg.out]; omega
        case rel => exact ⟨j + 1, m, c3, A3, rfl, by omega, by go_num, rfl, by show _ = _; rw [HD2.out, Hm.out], by omega, by rw [HD2.out]; exact ho32, HA3, hsm2, hU2⟩
      | false =>
        have hv : seenV G.c G.L (l.take j) s = none := by simp [seenV, hb]
        rw [hv] at hlook
        simp only [Option.getD_none] at hlook
        have HD2 : Hid (distTo G.c G.L l (j + 1) = distTo G.c G.L l j ++ [(q : Int)]) := HD.out.trans (by rw [hb]; rfl)
        obtain ⟨w3, hst, hsm3, hu3⟩ := hsm2.store Try.underlying88 Try.underlying9 s (.bool true)
        rw [HSN.out] at hsm3
        have hU3 : Upd (fun q => q = w.heap.size) w1 w3 := hU2.trans hu3 (fun i hi e => e)
        have hNA : ∀ k, At A3 k → k ≠ w.heap.size := fun k hk e => by have := HA3.out k hk; omega
        have ho33 := ho32.upd hu3 (fun k hk e => hNA k hk e)
        clear hv hb
        go_wp2_with (at_builtin; refine wpList_app rfl rfl T_ints' rfl (ho33.alloc _) rfl (Sl.new _ _ _) rfl (by simp [Value.oneCell']) (by simp only [maxLen]; omega) (by omega) ?_; intro A4 c4 w4 ho4 hu4 hat4)
        have hA4 : ∀ k, At A4 k → w1.heap.size ≤ k := fun k hk => by
          rcases hat4 k hk with h | h
          · exact HA3.out k h
          · have := hU3.size; simp at h; omega
        go_roundg (n - (j + 1))
        case measure => rw [Hg.out]; omega
        case rel =>
          refine ⟨j + 1, m + 1, c4, A4, rfl, by omega, by go_num, rfl, by show _ = _; rw [HD2.out, Hm.out]; simp, by omega, by rw [HD2.out, icells_snoc]; exact ho4, hA4, (hsm3.upd (Upd.refl.alloc _ (S := Non)) (fun f => f)).upd hu4 (fun h => hNA _ h rfl), (hU3.alloc _).trans hu4 (fun i hi h => by have := HA3.out i h; omega)⟩
    · obtain rfl : n = j := by omega
      go_wp2_with fail
      go_ret
      exact ⟨A3, c3, by rw [← Hn.out] at Hm; rw [← Hm.out]; rfl, by rw [← Hn.out] at Hm ho3; rw [← Hm.out]; exact ho3, fun k hk => by have := HA3.out k hk; omega, hUw.mono (fun i hi e => by omega)⟩
end Go.Proofs.Ytigambcefdeaoaa
