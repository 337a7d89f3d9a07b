/-
  What fullingref7.Value does at lists of value nodes, with two equal arguments.
-/
import Derived.Test.YtlehiklgbladoaaValP
import Derived.StillTailTactics
namespace Go.Proofs.Ytlehiklgbladoaa
open Go.RowKit

theorem T_i64s : SlT Try.prog 41 2 1 8 := by
  obtain ⟨i, h1, h2, h3, h4⟩ := info_parts (show (Try.prog.info? 2).map (fun i => (i.zero, i.size, i.bytes)) = some (some (.int .i64 0), 1, 8) from by kernel_rfl)
  exact ⟨Try.underlying41, ⟨i, _, h1, h2, h3, h4, rfl⟩, by omega⟩
theorem zero_i64 : (Try.prog.info? 2).bind (·.zero) = some (.int .i64 0) := by kernel_rfl

def valsA (f : Nat → Int) (n : Nat) : Array Value := ((List.range n).map fun m => Value.int .i64 (f m)).toArray
theorem valsA_get {f : Nat → Int} {n m : Nat} (h : m < n) : (valsA f n)[m]? = some (.int .i64 (f m)) := by simp [valsA, h]
theorem valsA_set (f : Nat → Int) (n q : Nat) (x : Int) : (valsA f n).setIfInBounds q (.int .i64 x) = valsA (fun m => if m = q then x else f m) n := by
  apply Array.ext
  · simp [valsA]
  · intro j h1 h2
    simp only [valsA, Array.size_setIfInBounds, List.size_toArray, List.length_map, List.length_range] at h1
    have h3 : j < (valsA f n).size := by simpa [valsA] using h1
    rw [Array.getElem_setIfInBounds h3]
    by_cases e : q = j
    · subst e; simp [valsA]
    · rw [if_neg e]
      have e' : ¬ j = q := fun h => e h.symm
      simp [valsA]
      intro h; exact (e' h).elim
theorem valsA_zero (n : Nat) : Array.replicate n (Value.int .i64 0) = valsA (fun _ => 0) n := by
  simp [valsA, List.map_const']

def VI (L : List Nd) (a : Int) (D : List Nat) (t : Nat) (o : Nat → Int) : Prop := ∀ s (h : s < D.length), s < t → o D[s] = val L a D[s]
theorem VI.step {L : List Nd} {a : Int} {i : Nat} {D : List Nat} (hD : DepOk L i D) {t : Nat} {o : Nat → Int} (h : VI L a D t o) (ht : t < D.length) {x : Int} (hx : x = val L a D[t]) : VI L a D (t + 1) (fun k => if k = D[t] then x else o k) := by
  intro s hs hst
  dsimp only
  by_cases e : s = t
  · subst e; rw [if_pos rfl, hx]
  · have := List.pairwise_iff_getElem.1 hD.asc s t hs ht (by omega)
    rw [if_neg (by omega)]
    exact h s hs (by omega)
theorem VI.kid {L : List Nd} (hv : VL L) {a : Int} {i : Nat} {D : List Nat} (hD : DepOk L i D) {t : Nat} {o : Nat → Int} (h : VI L a D t o) (ht : t < D.length) (hm : D[t] < L.length) {s : Nat} (hs : s < L[D[t]].kids.length) :
    o (kidN L[D[t]] s) = val L a (kidN L[D[t]] s) := by
  have hk := hD.kid D[t] (List.getElem_mem ht) (L[D[t]].kids[s]) (by rw [getD_of hm]; exact List.getElem_mem hs)
  have hlt := (kidN_lt hv hm hs).1
  have e : kidN L[D[t]] s = (L[D[t]].kids[s]).toNat := by unfold kidN; rw [getD_of hs]
  rw [← e] at hk
  obtain ⟨u, hu, he⟩ := List.mem_iff_getElem.1 hk
  have hut : u < t := by
    rcases Nat.lt_or_ge u t with h' | h'
    · exact h'
    · rcases Nat.lt_or_ge t u with h'' | h''
      · have := List.pairwise_iff_getElem.1 hD.asc t u ht hu h''; omega
      · have : t = u := by omega
        subst this; omega
  rw [← he]
  exact h u hu hut

theorem DepOk.len {L : List Nd} {i : Nat} {D : List Nat} (h : DepOk L i D) : D.length ≤ i + 1 := by
  have key : ∀ s (hs : s < D.length), s ≤ D[s] := by
    intro s
    induction s with
    | zero => intro _; omega
    | succ s ih =>
      intro hs
      have h1 := ih (by omega)
      have h2 := List.pairwise_iff_getElem.1 h.asc s (s + 1) (by omega) hs (by omega)
      omega
  rcases Nat.eq_zero_or_pos D.length with h0 | h0
  · omega
  · have h1 := key (D.length - 1) (by omega)
    have h2 := h.le _ (List.getElem_mem (show D.length - 1 < D.length by omega))
    omega

theorem binary_s (op a b : Int) (w : World) (h : 4 ≤ op) (h' : op ≤ 19) : Calls Try.prog 29 #[.int .i64 op, .int .i64 a, .int .i64 b] w fun e w' => e = .returned (.int .i64 (binF op a b)) ∧ w' = w :=
  (binary_c op a b w h h').mono fun _ _ h => ⟨h.1, h.2.symm⟩
theorem unary_s (op a : Int) (w : World) : Calls Try.prog 30 #[.int .i64 op, .int .i64 a] w fun e w' => e = .returned (.int .i64 (unF op a)) ∧ w' = w :=
  (unary_c op a w).mono fun _ _ h => ⟨h.1, h.2.symm⟩

set_option maxHeartbeats 1000000 in
set_option maxRecDepth 100000 in
theorem value_no (w : World) (F : Nat → Prop) (LA : Option Addr) (lc : Nat) (L : List Nd) (i : Nat) (AA : Value) (hL : NodesV w F LA L) (hc : L.length ≤ lc) (hi : i < L.length) (hn : L.length ≤ 100000000) (hk : ∀ nd ∈ L, nd.kids.length ≤ 100000000) (hv : VL L) (hop : L[i].op = 26) :
    Calls Try.prog 16 #[.slice LA L.length lc, .int .i64 i, AA] w fun e w' => e = .returned (.tuple #[.int .i64 0, .bool false]) ∧ Upd Non w w' := by
  have C1 := Lib.hid (sort_v w F LA lc L i hL hc hi (by omega) (fun nd h => by have := hk nd h; omega) hv)
  rw [if_pos hop] at C1
  clear hk hop hv hL
  go_enter Try.func16, Try.ntmps16
  go_wp2_with fail
  refine C1.out.mono ?_
  rintro e w1 ⟨rfl, hu1⟩
  go_wp2_with fail
  go_ret2
  exact ⟨rfl, hu1⟩

theorem nat_kid {q : Int} {m : Nat} (h : 0 ≤ q ∧ q < m) : ∃ p : Nat, q = p ∧ p < m := ⟨q.toNat, by omega, by omega⟩
theorem kids1 {L : List Nd} {m : Nat} {kids : List Int} (h : ∀ q ∈ kids, 0 ≤ q ∧ q < (m : Int) ∧ (L.getD q.toNat ⟨0, 0, []⟩).op ≠ 26) (hl : kids.length = 1) : ∃ q0 : Nat, kids = [(q0 : Int)] ∧ q0 < m := by
  match kids, hl with
  | [a], _ =>
    obtain ⟨p, rfl, hp⟩ := nat_kid ⟨(h a (by simp)).1, (h a (by simp)).2.1⟩
    exact ⟨p, rfl, hp⟩
theorem kids2 {L : List Nd} {m : Nat} {kids : List Int} (h : ∀ q ∈ kids, 0 ≤ q ∧ q < (m : Int) ∧ (L.getD q.toNat ⟨0, 0, []⟩).op ≠ 26) (hl : kids.length = 2) : ∃ q0 q1 : Nat, kids = [(q0 : Int), (q1 : Int)] ∧ q0 < m ∧ q1 < m := by
  match kids, hl with
  | [a, b], _ =>
    obtain ⟨p, rfl, hp⟩ := nat_kid ⟨(h a (by simp)).1, (h a (by simp)).2.1⟩
    obtain ⟨q, rfl, hq⟩ := nat_kid ⟨(h b (by simp)).1, (h b (by simp)).2.1⟩
    exact ⟨p, q, rfl, hp, hq⟩
theorem kids3 {L : List Nd} {m : Nat} {kids : List Int} (h : ∀ q ∈ kids, 0 ≤ q ∧ q < (m : Int) ∧ (L.getD q.toNat ⟨0, 0, []⟩).op ≠ 26) (hl : kids.length = 3) : ∃ q0 q1 q2 : Nat, kids = [(q0 : Int), (q1 : Int), (q2 : Int)] ∧ q0 < m ∧ q1 < m ∧ q2 < m := by
  match kids, hl with
  | [a, b, c], _ =>
    obtain ⟨p, rfl, hp⟩ := nat_kid ⟨(h a (by simp)).1, (h a (by simp)).2.1⟩
    obtain ⟨q, rfl, hq⟩ := nat_kid ⟨(h b (by simp)).1, (h b (by simp)).2.1⟩
    obtain ⟨r, rfl, hr⟩ := nat_kid ⟨(h c (by simp)).1, (h c (by simp)).2.1⟩
    exact ⟨p, q, r, rfl, hp, hq, hr⟩

theorem Sl.cell0 {w : World} {b o : Nat} {v : Value} (h : w.cell? ⟨b, o + 0, none⟩ = some v) : w.cell? ⟨b, o, none⟩ = some v := h

set_option maxHeartbeats 4000000 in
set_option maxRecDepth 100000 in
theorem value_c (w : World) (F : Nat → Prop) (LA AA : Option Addr) (lc ac : Nat) (L : List Nd) (i : Nat) (a : Int) (hL : NodesV w F LA L) (hA : Ints w F AA [a, a]) (hc : L.length ≤ lc) (hi : i < L.length) (hn : L.length ≤ 100000000) (hk : ∀ nd ∈ L, nd.kids.length ≤ 100000000) (hv : VL L) (hop : L[i].op ≠ 26) :
    Calls Try.prog 16 #[.slice LA L.length lc, .int .i64 i, .slice AA 2 ac] w fun e w' => e = .returned (.tuple #[.int .i64 (val L a i), .bool true]) ∧ Upd Non w w' := by
  have C1 := Lib.hid (sort_v w F LA lc L i hL hc hi (by omega) (fun nd h => by have := hk nd h; omega) hv)
  rw [if_neg hop] at C1
  have C2 := Lib.hid (fun (W : World) (hu : Upd Non w W) => deps_c W F LA lc L i (hL.upd hu (fun _ _ _ f => f)) hc hi hn hk hv hop)
  have hmk : ∀ w : World, (Instr.makeSlice 41 (.int .i64 ((i : Int) + 1)) (.int .i64 ((i : Int) + 1))).run Try.prog w = .ok (.slice (some ⟨w.heap.size, 0, none⟩) (i + 1) (i + 1)) (w.alloc (.cells (valsA (fun _ => 0) (i + 1)) 2)) := fun w => by
    have h := run_mk (P := Try.prog) T_i64s zero_i64 rfl (i + 1) (by omega) (by omega) w
    rw [Int.natCast_add, valsA_zero] at h
    exact h
  have hL := hL.mono (G := (· < w.heap.size)) (fun k hk _ => hk)
  have hA := hA.mono (G := (· < w.heap.size)) (fun k hk _ => hk)
  have HV := Lib.hid hv
  have HK := Lib.hid hk
  clear hk hop hv
  go_enter Try.func16, Try.ntmps16
  go_wp2_with fail
  refine C1.out.mono ?_
  rintro e w1 ⟨rfl, hu1⟩
  clear C1
  go_wp2_with fail
  refine (C2.out w1 hu1).mono ?_
  rintro e w2 ⟨D, DA, dc, HD, rfl, hDo, hDA, hu2⟩
  have HD := Lib.hid HD
  have hU2 := hu1.then_non hu2
  have hdl : D.length ≤ i + 1 := HD.out.len
  have hdc := hDo.le
  have hDv := hDo.ints.mono (G := (· < w2.heap.size)) (fun k hk _ => hk)
  have hL2 := hL.upd hU2 (fun _ _ _ f => f)
  have hA2 := hA.upd hU2 (fun _ _ _ f => f)
  have hsz := hU2.size
  clear hDo hDA hu1 hu2 hL hA C2
  go_wp2_with fail
  clear hmk
  have hbs := Blk.new w2 2 (valsA (fun _ => 0) (i + 1))
  have u3 : Upd Non w2 (w2.alloc (.cells (valsA (fun _ => 0) (i + 1)) 2)) := Upd.refl.alloc _
  have hL3 := hL2.upd u3 (fun _ _ _ f => f)
  have hA3 := hA2.upd u3 (fun _ _ _ f => f)
  have hDv3 := hDv.upd u3 (fun _ _ _ f => f)
  have hU3 := hU2.then_non u3
  obtain ⟨w3, Hw3⟩ := nm (w2.alloc (.cells (valsA (fun _ => 0) (i + 1)) 2))
  obtain ⟨g, Hgg⟩ := nm w2.heap.size
  rw [Hw3.out] at hbs hL3 hA3 hDv3 hU3 ⊢
  rw [Hgg.out] at hbs hDv3 hsz
  try rw [Hgg.out]
  clear u3 hL2 hA2 hDv hU2 Hw3 Hgg
  go_loopg [10] D.length (fun gh j wr => ∃ (t : Nat) (o : Nat → Int), Hid (gh = D.length - t) ∧ t ≤ D.length ∧ j = .int .i64 (t : Int) ∧ Hid (VI L a D t o) ∧ Blk wr g 2 (valsA o (i + 1)) ∧ Upd (· = g) w3 wr)
  case atStart => exact ⟨0, _, rfl, by omega, rfl, fun s _ h => by omega, hbs, Upd.refl⟩
  case round =>
    obtain ⟨t, o, Hg, ht, rfl, HVI, hb, hu⟩ := hrel
    clear hbs
    by_cases hlt : t < D.length
    · have hmi := HD.out.le _ (List.getElem_mem hlt)
      have hmv := HD.out.val _ (List.getElem_mem hlt)
      have hml : D[t] < L.length := by omega
      rw [getD_of hml] at hmv
      have HVE := Lib.hid (val_eq HV.out a hml hmv)
      have HVN := Lib.hid (HV.out.vn hml hmv)
      have HKD := Lib.hid (fun s (hs : s < L[D[t]].kids.length) => HVI.out.kid HV.out HD.out hlt hml hs)
      have HST := Lib.hid (fun (x : Int) (hx : x = val L a D[t]) => HVI.out.step HD.out hlt hx)
      obtain ⟨db, do_, rfl, hFd, hdb, hcd⟩ := (hDv3.upd hu (fun k hk h e => by omega)).at_ (k := t) (by simpa [nats] using hlt)
      obtain ⟨lb, lo, rfl, hFl, hlb, h1, h2, KA, kc, h3, hkc, hki⟩ := (hL3.upd hu (fun k hk h e => by omega)).at_ hml
      have hA4 := hA3.upd hu (fun k hk h e => by omega)
      have hkk := HK.out _ (List.getElem_mem hml)
      have hnd : (nats D)[t]'(by simpa [nats] using hlt) = ((D[t] : Nat) : Int) := by simp [nats]
      rw [hnd] at hcd
      clear hnd hmv
      generalize L[D[t]] = nd at *
      generalize D[t] = m at *
      have hcm := hb.cell m
      rw [valsA_get (by omega)] at hcm
      have hcf := hb.frozen m
      have HO := Lib.hid (fun q (hq : q < m) => (hb.cell q).trans (valsA_get (by omega)))
      have hgl := hb.lt
      have hmI : (m : Int) < (i : Int) + 1 := by omega
      obtain ⟨op, imm, kids⟩ := nd
      dsimp only at h1 h2 h3 hkc hki hkk
      obtain ⟨hsh, hkids⟩ := HVN.out
      have HKI := Lib.hid hkids
      dsimp only at hsh HKI
      clear HVN hkids
      rcases hsh with ⟨rfl, h0⟩ | ⟨rfl, himm, h0⟩ | ⟨ho1, ho2, rfl, h0⟩ | ⟨ho, rfl, h0⟩ | ⟨rfl, rfl, h0⟩
      · -- a constant
        obtain rfl : kids = [] := List.eq_nil_of_length_eq_zero h0
        have HX : Hid (imm = val L a m) := by show _ = _; rw [HVE.out]; simp [vStep]
        have HV2 := Lib.hid (HST.out imm HX.out)
        have hbn := Blk.new wr 24 #[.int .i64 1, .int .i64 imm, .slice KA 0 kc]
        have hbW := hb.alloc (.cells #[.int .i64 1, .int .i64 imm, .slice KA 0 kc] 24)
        have uW : Upd Non wr (wr.alloc (.cells #[.int .i64 1, .int .i64 imm, .slice KA 0 kc] 24)) := Upd.refl.alloc _
        have huW := hu.alloc (.cells #[.int .i64 1, .int .i64 imm, .slice KA 0 kc] 24)
        have h3 : wr.cell? ⟨lb, lo + m * 3 + 2, none⟩ = some (.slice KA 0 kc) := h3
        have hWf := hbW.frozen m
        have hcdW := cell_upd hcd uW (fun f => f)
        have hcmW := cell_upd hcm uW (fun f => f)
        obtain ⟨W, HW⟩ := nm (wr.alloc (.cells #[.int .i64 1, .int .i64 imm, .slice KA 0 kc] 24))
        obtain ⟨nb, Hnb⟩ := nm wr.heap.size
        clear HST HVE HKD HO HKI h0
        go_wp2_with fail
        rw [HW.out]
        rw [HW.out] at hbn hbW uW huW hWf hcdW hcmW
        rw [Hnb.out] at hbn ⊢
        have n0 := hbn.cell 0
        have n1 := hbn.cell 1
        have n2 := hbn.cell 2
        have HB2 := (hbW.set_ m (.int .i64 imm)).drew
        rw [valsA_set] at HB2
        have HU2 := (huW.setCell (p := ⟨g, m, none⟩) (.inl rfl) (.int .i64 imm)).drew
        clear hbW uW huW hbn hb hu
        refine wp_region_still_tail 8 (by kernel_rfl) (by kernel_rfl) ?_
        simp only [List.take_succ_cons, List.take_zero, List.drop_succ_cons, List.drop_zero]
        change wpStill _ _ W.drew _ _ _
        repeat still_step
        try refine wpStill_nil ?_
        change wpList _ _ _ _ _ W.drew
        go_wp2_with fail
        go_roundg (D.length - (t + 1))
        case measure => rw [Hg.out]; omega
        case rel => exact ⟨t + 1, _, rfl, by omega, by go_num, HV2, HB2, HU2⟩
      · -- a parameter
        obtain rfl : kids = [] := List.eq_nil_of_length_eq_zero h0
        have HX : Hid (a = val L a m) := by show _ = _; rw [HVE.out]; simp [vStep]
        obtain ⟨ab, ao, rfl, hFa, hab, hca⟩ := hA4.all_ (by simp)
        have a0 : wr.cell? ⟨ab, ao, none⟩ = some (.int .i64 a) := hca 0 (by simp)
        have a1 : wr.cell? ⟨ab, ao + 1, none⟩ = some (.int .i64 a) := hca 1 (by simp)
        clear hca
        rcases himm with rfl | rfl
        · have HV2 := Lib.hid (HST.out a HX.out)
          have hbn := Blk.new wr 24 #[.int .i64 2, .int .i64 0, .slice KA 0 kc]
          have hbW := hb.alloc (.cells #[.int .i64 2, .int .i64 0, .slice KA 0 kc] 24)
          have uW : Upd Non wr (wr.alloc (.cells #[.int .i64 2, .int .i64 0, .slice KA 0 kc] 24)) := Upd.refl.alloc _
          have huW := hu.alloc (.cells #[.int .i64 2, .int .i64 0, .slice KA 0 kc] 24)
          have h3 : wr.cell? ⟨lb, lo + m * 3 + 2, none⟩ = some (.slice KA 0 kc) := h3
          have hWf := hbW.frozen m
          have hcdW := cell_upd hcd uW (fun f => f)
          have hcmW := cell_upd hcm uW (fun f => f)
          have a0W := cell_upd a0 uW (fun f => f)
          have a1W := cell_upd a1 uW (fun f => f)
          obtain ⟨W, HW⟩ := nm (wr.alloc (.cells #[.int .i64 2, .int .i64 0, .slice KA 0 kc] 24))
          obtain ⟨nb, Hnb⟩ := nm wr.heap.size
          clear HST HVE HKD HO HKI h0
          go_wp2_with fail
          rw [HW.out]
          rw [HW.out] at hbn hbW uW huW hWf hcdW hcmW a0W a1W
          rw [Hnb.out] at hbn ⊢
          have n0 := hbn.cell 0
          have n1 := hbn.cell 1
          have n2 := hbn.cell 2
          have HB2 := (hbW.set_ m (.int .i64 (a))).drew
          rw [valsA_set] at HB2
          have HU2 := (huW.setCell (p := ⟨g, m, none⟩) (.inl rfl) (.int .i64 (a))).drew
          clear hbW uW huW hbn hb hu
          refine wp_region_still_tail 11 (by kernel_rfl) (by kernel_rfl) ?_
          simp only [List.take_succ_cons, List.take_zero, List.drop_succ_cons, List.drop_zero]
          change wpStill _ _ W.drew _ _ _
          repeat still_step
          try refine wpStill_nil ?_
          change wpList _ _ _ _ _ W.drew
          go_wp2_with fail
          go_roundg (D.length - (t + 1))
          case measure => rw [Hg.out]; omega
          case rel => exact ⟨t + 1, _, rfl, by omega, by go_num, HV2, HB2, HU2⟩
        · have HV2 := Lib.hid (HST.out a HX.out)
          have hbn := Blk.new wr 24 #[.int .i64 2, .int .i64 1, .slice KA 0 kc]
          have hbW := hb.alloc (.cells #[.int .i64 2, .int .i64 1, .slice KA 0 kc] 24)
          have uW : Upd Non wr (wr.alloc (.cells #[.int .i64 2, .int .i64 1, .slice KA 0 kc] 24)) := Upd.refl.alloc _
          have huW := hu.alloc (.cells #[.int .i64 2, .int .i64 1, .slice KA 0 kc] 24)
          have h3 : wr.cell? ⟨lb, lo + m * 3 + 2, none⟩ = some (.slice KA 0 kc) := h3
          have hWf := hbW.frozen m
          have hcdW := cell_upd hcd uW (fun f => f)
          have hcmW := cell_upd hcm uW (fun f => f)
          have a0W := cell_upd a0 uW (fun f => f)
          have a1W := cell_upd a1 uW (fun f => f)
          obtain ⟨W, HW⟩ := nm (wr.alloc (.cells #[.int .i64 2, .int .i64 1, .slice KA 0 kc] 24))
          obtain ⟨nb, Hnb⟩ := nm wr.heap.size
          clear HST HVE HKD HO HKI h0
          go_wp2_with fail
          rw [HW.out]
          rw [HW.out] at hbn hbW uW huW hWf hcdW hcmW a0W a1W
          rw [Hnb.out] at hbn ⊢
          have n0 := hbn.cell 0
          have n1 := hbn.cell 1
          have n2 := hbn.cell 2
          have HB2 := (hbW.set_ m (.int .i64 (a))).drew
          rw [valsA_set] at HB2
          have HU2 := (huW.setCell (p := ⟨g, m, none⟩) (.inl rfl) (.int .i64 (a))).drew
          clear hbW uW huW hbn hb hu
          refine wp_region_still_tail 11 (by kernel_rfl) (by kernel_rfl) ?_
          simp only [List.take_succ_cons, List.take_zero, List.drop_succ_cons, List.drop_zero]
          change wpStill _ _ W.drew _ _ _
          repeat still_step
          try refine wpStill_nil ?_
          change wpList _ _ _ _ _ W.drew
          go_wp2_with fail
          go_roundg (D.length - (t + 1))
          case measure => rw [Hg.out]; omega
          case rel => exact ⟨t + 1, _, rfl, by omega, by go_num, HV2, HB2, HU2⟩
      · -- a binary operation
        obtain ⟨q0, q1, rfl, hq⟩ := kids2 HKI.out h0
        obtain ⟨lq0, lq1⟩ := hq
        obtain ⟨kb, ko, rfl, hFk, hkb, hck⟩ := hki.all_ (by simp)
        have c0 : wr.cell? ⟨kb, ko, none⟩ = some (.int .i64 (q0 : Int)) := hck 0 (by simp)
        have e0 := HO.out q0 lq0
        have HE0 : Hid (o q0 = val L a q0) := HKD.out 0 (by simp)
        rw [HE0.out] at e0
        have HN0 : Hid (val L a (kidN ⟨op, 0, [(q0 : Int), (q1 : Int)]⟩ 0) = val L a q0) := rfl
        obtain ⟨x0, Hx0⟩ := nm (val L a q0)
        rw [Hx0.out] at e0 HN0
        have i0 : (q0 : Int) < (i : Int) + 1 := by omega
        have c1 : wr.cell? ⟨kb, ko + 1, none⟩ = some (.int .i64 (q1 : Int)) := hck 1 (by simp)
        have e1 := HO.out q1 lq1
        have HE1 : Hid (o q1 = val L a q1) := HKD.out 1 (by simp)
        rw [HE1.out] at e1
        have HN1 : Hid (val L a (kidN ⟨op, 0, [(q0 : Int), (q1 : Int)]⟩ 1) = val L a q1) := rfl
        obtain ⟨x1, Hx1⟩ := nm (val L a q1)
        rw [Hx1.out] at e1 HN1
        have i1 : (q1 : Int) < (i : Int) + 1 := by omega
        clear hck
        have HX : Hid (binF op x0 x1 = val L a m) := by
          show _ = _
          rw [HVE.out]; unfold vStep
          rw [if_neg (show ¬ op = 1 by omega), if_neg (show ¬ op = 2 by omega), if_pos ⟨ho1, ho2⟩, HN0.out, HN1.out]
        have d1 : (op == 1) = false := by rw [beq_eq_false_iff_ne]; omega
        have d2 : (op == 2) = false := by rw [beq_eq_false_iff_ne]; omega
        have HV2 := Lib.hid (HST.out (binF op x0 x1) HX.out)
        have hbn := Blk.new wr 24 #[.int .i64 op, .int .i64 0, .slice (some ⟨kb, ko, none⟩) 2 kc]
        have hbW := hb.alloc (.cells #[.int .i64 op, .int .i64 0, .slice (some ⟨kb, ko, none⟩) 2 kc] 24)
        have uW : Upd Non wr (wr.alloc (.cells #[.int .i64 op, .int .i64 0, .slice (some ⟨kb, ko, none⟩) 2 kc] 24)) := Upd.refl.alloc _
        have huW := hu.alloc (.cells #[.int .i64 op, .int .i64 0, .slice (some ⟨kb, ko, none⟩) 2 kc] 24)
        have h3 : wr.cell? ⟨lb, lo + m * 3 + 2, none⟩ = some (.slice (some ⟨kb, ko, none⟩) 2 kc) := h3
        have hWf := hbW.frozen m
        have hcdW := cell_upd hcd uW (fun f => f)
        have hcmW := cell_upd hcm uW (fun f => f)
        have c0W := cell_upd c0 uW (fun f => f)
        have c1W := cell_upd c1 uW (fun f => f)
        have e0W := cell_upd e0 uW (fun f => f)
        have e1W := cell_upd e1 uW (fun f => f)
        obtain ⟨W, HW⟩ := nm (wr.alloc (.cells #[.int .i64 op, .int .i64 0, .slice (some ⟨kb, ko, none⟩) 2 kc] 24))
        obtain ⟨nb, Hnb⟩ := nm wr.heap.size
        clear HST HVE HKD HO HKI h0
        go_wp2_with fail
        rw [HW.out]
        rw [HW.out] at hbn hbW uW huW hWf hcdW hcmW c0W c1W e0W e1W
        rw [Hnb.out] at hbn ⊢
        have n0 := hbn.cell 0
        have n1 := hbn.cell 1
        have n2 := hbn.cell 2
        have HB2 := (hbW.set_ m (.int .i64 ((binF op x0 x1)))).drew
        rw [valsA_set] at HB2
        have HU2 := (huW.setCell (p := ⟨g, m, none⟩) (.inl rfl) (.int .i64 ((binF op x0 x1)))).drew
        clear hbW uW huW hbn hb hu
        refine wp_region_still_tail 23 (by kernel_rfl) (by kernel_rfl) ?_
        simp only [List.take_succ_cons, List.take_zero, List.drop_succ_cons, List.drop_zero]
        change wpStill _ _ W.drew _ _ _
        repeat still_step
        still_call (binary_s _ _ _ _ ho1 ho2)
        repeat still_step
        try refine wpStill_nil ?_
        change wpList _ _ _ _ _ W.drew
        go_wp2_with fail
        go_roundg (D.length - (t + 1))
        case measure => rw [Hg.out]; omega
        case rel => exact ⟨t + 1, _, rfl, by omega, by go_num, HV2, HB2, HU2⟩
      · -- a unary operation
        obtain ⟨q0, rfl, hq⟩ := kids1 HKI.out h0
        have lq0 := hq
        obtain ⟨kb, ko, rfl, hFk, hkb, hck⟩ := hki.all_ (by simp)
        have c0 : wr.cell? ⟨kb, ko, none⟩ = some (.int .i64 (q0 : Int)) := hck 0 (by simp)
        have e0 := HO.out q0 lq0
        have HE0 : Hid (o q0 = val L a q0) := HKD.out 0 (by simp)
        rw [HE0.out] at e0
        have HN0 : Hid (val L a (kidN ⟨op, 0, [(q0 : Int)]⟩ 0) = val L a q0) := rfl
        obtain ⟨x0, Hx0⟩ := nm (val L a q0)
        rw [Hx0.out] at e0 HN0
        have i0 : (q0 : Int) < (i : Int) + 1 := by omega
        clear hck
        have HX : Hid (unF op x0 = val L a m) := by
          show _ = _
          rw [HVE.out]; unfold vStep
          rw [if_neg (show ¬ op = 1 by omega), if_neg (show ¬ op = 2 by omega), if_neg (show ¬ (4 ≤ op ∧ op ≤ 19) by omega), if_pos ho, HN0.out]
        rcases ho with rfl | rfl
        · have HV2 := Lib.hid (HST.out (unF 20 x0) HX.out)
          have hbn := Blk.new wr 24 #[.int .i64 20, .int .i64 0, .slice (some ⟨kb, ko, none⟩) 1 kc]
          have hbW := hb.alloc (.cells #[.int .i64 20, .int .i64 0, .slice (some ⟨kb, ko, none⟩) 1 kc] 24)
          have uW : Upd Non wr (wr.alloc (.cells #[.int .i64 20, .int .i64 0, .slice (some ⟨kb, ko, none⟩) 1 kc] 24)) := Upd.refl.alloc _
          have huW := hu.alloc (.cells #[.int .i64 20, .int .i64 0, .slice (some ⟨kb, ko, none⟩) 1 kc] 24)
          have h3 : wr.cell? ⟨lb, lo + m * 3 + 2, none⟩ = some (.slice (some ⟨kb, ko, none⟩) 1 kc) := h3
          have hWf := hbW.frozen m
          have hcdW := cell_upd hcd uW (fun f => f)
          have hcmW := cell_upd hcm uW (fun f => f)
          have c0W := cell_upd c0 uW (fun f => f)
          have e0W := cell_upd e0 uW (fun f => f)
          obtain ⟨W, HW⟩ := nm (wr.alloc (.cells #[.int .i64 20, .int .i64 0, .slice (some ⟨kb, ko, none⟩) 1 kc] 24))
          obtain ⟨nb, Hnb⟩ := nm wr.heap.size
          clear HST HVE HKD HO HKI h0
          go_wp2_with fail
          rw [HW.out]
          rw [HW.out] at hbn hbW uW huW hWf hcdW hcmW c0W e0W
          rw [Hnb.out] at hbn ⊢
          have n0 := hbn.cell 0
          have n1 := hbn.cell 1
          have n2 := hbn.cell 2
          have HB2 := (hbW.set_ m (.int .i64 ((unF 20 x0)))).drew
          rw [valsA_set] at HB2
          have HU2 := (huW.setCell (p := ⟨g, m, none⟩) (.inl rfl) (.int .i64 ((unF 20 x0)))).drew
          clear hbW uW huW hbn hb hu
          refine wp_region_still_tail 16 (by kernel_rfl) (by kernel_rfl) ?_
          simp only [List.take_succ_cons, List.take_zero, List.drop_succ_cons, List.drop_zero]
          change wpStill _ _ W.drew _ _ _
          repeat still_step
          still_call (unary_s _ _ _)
          repeat still_step
          try refine wpStill_nil ?_
          change wpList _ _ _ _ _ W.drew
          go_wp2_with fail
          go_roundg (D.length - (t + 1))
          case measure => rw [Hg.out]; omega
          case rel => exact ⟨t + 1, _, rfl, by omega, by go_num, HV2, HB2, HU2⟩
        · have HV2 := Lib.hid (HST.out (unF 21 x0) HX.out)
          have hbn := Blk.new wr 24 #[.int .i64 21, .int .i64 0, .slice (some ⟨kb, ko, none⟩) 1 kc]
          have hbW := hb.alloc (.cells #[.int .i64 21, .int .i64 0, .slice (some ⟨kb, ko, none⟩) 1 kc] 24)
          have uW : Upd Non wr (wr.alloc (.cells #[.int .i64 21, .int .i64 0, .slice (some ⟨kb, ko, none⟩) 1 kc] 24)) := Upd.refl.alloc _
          have huW := hu.alloc (.cells #[.int .i64 21, .int .i64 0, .slice (some ⟨kb, ko, none⟩) 1 kc] 24)
          have h3 : wr.cell? ⟨lb, lo + m * 3 + 2, none⟩ = some (.slice (some ⟨kb, ko, none⟩) 1 kc) := h3
          have hWf := hbW.frozen m
          have hcdW := cell_upd hcd uW (fun f => f)
          have hcmW := cell_upd hcm uW (fun f => f)
          have c0W := cell_upd c0 uW (fun f => f)
          have e0W := cell_upd e0 uW (fun f => f)
          obtain ⟨W, HW⟩ := nm (wr.alloc (.cells #[.int .i64 21, .int .i64 0, .slice (some ⟨kb, ko, none⟩) 1 kc] 24))
          obtain ⟨nb, Hnb⟩ := nm wr.heap.size
          clear HST HVE HKD HO HKI h0
          go_wp2_with fail
          rw [HW.out]
          rw [HW.out] at hbn hbW uW huW hWf hcdW hcmW c0W e0W
          rw [Hnb.out] at hbn ⊢
          have n0 := hbn.cell 0
          have n1 := hbn.cell 1
          have n2 := hbn.cell 2
          have HB2 := (hbW.set_ m (.int .i64 ((unF 21 x0)))).drew
          rw [valsA_set] at HB2
          have HU2 := (huW.setCell (p := ⟨g, m, none⟩) (.inl rfl) (.int .i64 ((unF 21 x0)))).drew
          clear hbW uW huW hbn hb hu
          refine wp_region_still_tail 16 (by kernel_rfl) (by kernel_rfl) ?_
          simp only [List.take_succ_cons, List.take_zero, List.drop_succ_cons, List.drop_zero]
          change wpStill _ _ W.drew _ _ _
          repeat still_step
          still_call (unary_s _ _ _)
          repeat still_step
          try refine wpStill_nil ?_
          change wpList _ _ _ _ _ W.drew
          go_wp2_with fail
          go_roundg (D.length - (t + 1))
          case measure => rw [Hg.out]; omega
          case rel => exact ⟨t + 1, _, rfl, by omega, by go_num, HV2, HB2, HU2⟩
      · -- a selection
        obtain ⟨q0, q1, q2, rfl, hq⟩ := kids3 HKI.out h0
        obtain ⟨lq0, lq1, lq2⟩ := hq
        obtain ⟨kb, ko, rfl, hFk, hkb, hck⟩ := hki.all_ (by simp)
        have c0 : wr.cell? ⟨kb, ko, none⟩ = some (.int .i64 (q0 : Int)) := hck 0 (by simp)
        have e0 := HO.out q0 lq0
        have HE0 : Hid (o q0 = val L a q0) := HKD.out 0 (by simp)
        rw [HE0.out] at e0
        have HN0 : Hid (val L a (kidN ⟨22, 0, [(q0 : Int), (q1 : Int), (q2 : Int)]⟩ 0) = val L a q0) := rfl
        obtain ⟨x0, Hx0⟩ := nm (val L a q0)
        rw [Hx0.out] at e0 HN0
        have i0 : (q0 : Int) < (i : Int) + 1 := by omega
        have c1 : wr.cell? ⟨kb, ko + 1, none⟩ = some (.int .i64 (q1 : Int)) := hck 1 (by simp)
        have e1 := HO.out q1 lq1
        have HE1 : Hid (o q1 = val L a q1) := HKD.out 1 (by simp)
        rw [HE1.out] at e1
        have HN1 : Hid (val L a (kidN ⟨22, 0, [(q0 : Int), (q1 : Int), (q2 : Int)]⟩ 1) = val L a q1) := rfl
        obtain ⟨x1, Hx1⟩ := nm (val L a q1)
        rw [Hx1.out] at e1 HN1
        have i1 : (q1 : Int) < (i : Int) + 1 := by omega
        have c2 : wr.cell? ⟨kb, ko + 2, none⟩ = some (.int .i64 (q2 : Int)) := hck 2 (by simp)
        have e2 := HO.out q2 lq2
        have HE2 : Hid (o q2 = val L a q2) := HKD.out 2 (by simp)
        rw [HE2.out] at e2
        have HN2 : Hid (val L a (kidN ⟨22, 0, [(q0 : Int), (q1 : Int), (q2 : Int)]⟩ 2) = val L a q2) := rfl
        obtain ⟨x2, Hx2⟩ := nm (val L a q2)
        rw [Hx2.out] at e2 HN2
        have i2 : (q2 : Int) < (i : Int) + 1 := by omega
        clear hck
        by_cases hz : x0 = 0
        · have HX : Hid (x2 = val L a m) := by
            show _ = _
            rw [HVE.out]; unfold vStep
            rw [if_neg (by simp), if_neg (by simp), if_neg (by simp), if_neg (by simp), if_pos rfl, HN0.out, HN1.out, HN2.out, if_pos hz]
          subst hz
          have HV2 := Lib.hid (HST.out x2 HX.out)
          have hbn := Blk.new wr 24 #[.int .i64 22, .int .i64 0, .slice (some ⟨kb, ko, none⟩) 3 kc]
          have hbW := hb.alloc (.cells #[.int .i64 22, .int .i64 0, .slice (some ⟨kb, ko, none⟩) 3 kc] 24)
          have uW : Upd Non wr (wr.alloc (.cells #[.int .i64 22, .int .i64 0, .slice (some ⟨kb, ko, none⟩) 3 kc] 24)) := Upd.refl.alloc _
          have huW := hu.alloc (.cells #[.int .i64 22, .int .i64 0, .slice (some ⟨kb, ko, none⟩) 3 kc] 24)
          have h3 : wr.cell? ⟨lb, lo + m * 3 + 2, none⟩ = some (.slice (some ⟨kb, ko, none⟩) 3 kc) := h3
          have hWf := hbW.frozen m
          have hcdW := cell_upd hcd uW (fun f => f)
          have hcmW := cell_upd hcm uW (fun f => f)
          have c0W := cell_upd c0 uW (fun f => f)
          have c1W := cell_upd c1 uW (fun f => f)
          have c2W := cell_upd c2 uW (fun f => f)
          have e0W := cell_upd e0 uW (fun f => f)
          have e1W := cell_upd e1 uW (fun f => f)
          have e2W := cell_upd e2 uW (fun f => f)
          obtain ⟨W, HW⟩ := nm (wr.alloc (.cells #[.int .i64 22, .int .i64 0, .slice (some ⟨kb, ko, none⟩) 3 kc] 24))
          obtain ⟨nb, Hnb⟩ := nm wr.heap.size
          clear HST HVE HKD HO HKI h0
          go_wp2_with fail
          rw [HW.out]
          rw [HW.out] at hbn hbW uW huW hWf hcdW hcmW c0W c1W c2W e0W e1W e2W
          rw [Hnb.out] at hbn ⊢
          have n0 := hbn.cell 0
          have n1 := hbn.cell 1
          have n2 := hbn.cell 2
          have HB2 := (hbW.set_ m (.int .i64 (x2))).drew
          rw [valsA_set] at HB2
          have HU2 := (huW.setCell (p := ⟨g, m, none⟩) (.inl rfl) (.int .i64 (x2))).drew
          clear hbW uW huW hbn hb hu
          refine wp_region_still_tail 13 (by kernel_rfl) (by kernel_rfl) ?_
          simp only [List.take_succ_cons, List.take_zero, List.drop_succ_cons, List.drop_zero]
          change wpStill _ _ W.drew _ _ _
          repeat still_step
          try refine wpStill_nil ?_
          change wpList _ _ _ _ _ W.drew
          go_wp2_with fail
          go_roundg (D.length - (t + 1))
          case measure => rw [Hg.out]; omega
          case rel => exact ⟨t + 1, _, rfl, by omega, by go_num, HV2, HB2, HU2⟩
        · have HX : Hid (x1 = val L a m) := by
            show _ = _
            rw [HVE.out]; unfold vStep
            rw [if_neg (by simp), if_neg (by simp), if_neg (by simp), if_neg (by simp), if_pos rfl, HN0.out, HN1.out, HN2.out, if_neg hz]
          have dz : (x0 != 0) = true := by simpa using hz
          have HV2 := Lib.hid (HST.out x1 HX.out)
          have hbn := Blk.new wr 24 #[.int .i64 22, .int .i64 0, .slice (some ⟨kb, ko, none⟩) 3 kc]
          have hbW := hb.alloc (.cells #[.int .i64 22, .int .i64 0, .slice (some ⟨kb, ko, none⟩) 3 kc] 24)
          have uW : Upd Non wr (wr.alloc (.cells #[.int .i64 22, .int .i64 0, .slice (some ⟨kb, ko, none⟩) 3 kc] 24)) := Upd.refl.alloc _
          have huW := hu.alloc (.cells #[.int .i64 22, .int .i64 0, .slice (some ⟨kb, ko, none⟩) 3 kc] 24)
          have h3 : wr.cell? ⟨lb, lo + m * 3 + 2, none⟩ = some (.slice (some ⟨kb, ko, none⟩) 3 kc) := h3
          have hWf := hbW.frozen m
          have hcdW := cell_upd hcd uW (fun f => f)
          have hcmW := cell_upd hcm uW (fun f => f)
          have c0W := cell_upd c0 uW (fun f => f)
          have c1W := cell_upd c1 uW (fun f => f)
          have c2W := cell_upd c2 uW (fun f => f)
          have e0W := cell_upd e0 uW (fun f => f)
          have e1W := cell_upd e1 uW (fun f => f)
          have e2W := cell_upd e2 uW (fun f => f)
          obtain ⟨W, HW⟩ := nm (wr.alloc (.cells #[.int .i64 22, .int .i64 0, .slice (some ⟨kb, ko, none⟩) 3 kc] 24))
          obtain ⟨nb, Hnb⟩ := nm wr.heap.size
          clear HST HVE HKD HO HKI h0
          go_wp2_with fail
          rw [HW.out]
          rw [HW.out] at hbn hbW uW huW hWf hcdW hcmW c0W c1W c2W e0W e1W e2W
          rw [Hnb.out] at hbn ⊢
          have n0 := hbn.cell 0
          have n1 := hbn.cell 1
          have n2 := hbn.cell 2
          have HB2 := (hbW.set_ m (.int .i64 (x1))).drew
          rw [valsA_set] at HB2
          have HU2 := (huW.setCell (p := ⟨g, m, none⟩) (.inl rfl) (.int .i64 (x1))).drew
          clear hbW uW huW hbn hb hu
          refine wp_region_still_tail 13 (by kernel_rfl) (by kernel_rfl) ?_
          simp only [List.take_succ_cons, List.take_zero, List.drop_succ_cons, List.drop_zero]
          change wpStill _ _ W.drew _ _ _
          repeat still_step
          try refine wpStill_nil ?_
          change wpList _ _ _ _ _ W.drew
          go_wp2_with fail
          go_roundg (D.length - (t + 1))
          case measure => rw [Hg.out]; omega
          case rel => exact ⟨t + 1, _, rfl, by omega, by go_num, HV2, HB2, HU2⟩
    · obtain rfl : t = D.length := by omega
      have HE : Hid (o i = val L a i) := by
        obtain ⟨s, hs, e⟩ := List.mem_iff_getElem.1 HD.out.top
        have := HVI.out s hs hs
        rwa [e] at this
      have hci := hb.cell i
      rw [valsA_get (by omega), HE.out] at hci
      obtain ⟨x, Hx⟩ := nm (val L a i)
      rw [Hx.out] at hci
      clear HE
      go_wp2_with fail
      go_ret2
      exact ⟨by rw [Hx.out]; rfl, hU3.trans hu (fun k hk e => by omega)⟩
end Go.Proofs.Ytlehiklgbladoaa
