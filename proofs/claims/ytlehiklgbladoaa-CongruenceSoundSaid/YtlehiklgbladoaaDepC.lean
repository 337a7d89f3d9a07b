/-
  What fullingref7.Dependencies does at lists of value nodes: it returns an ascending list of value nodes that holds the node and is closed under operands.
-/
import Derived.Test.YtlehiklgbladoaaSortC
namespace Go.Proofs.Ytlehiklgbladoaa
open Go.RowKit

theorem T_bools : SlT Try.prog 67 4 1 1 := by
  obtain ⟨i, h1, h2, h3, h4⟩ := info_parts (show (Try.prog.info? 4).map (fun i => (i.zero, i.size, i.bytes)) = some (some (.bool false), 1, 1) from by kernel_rfl)
  exact ⟨Try.underlying67, ⟨i, _, h1, h2, h3, h4, rfl⟩, by omega⟩
theorem zero_bool : (Try.prog.info? 4).bind (·.zero) = some (.bool false) := by kernel_rfl

def marksA (f : Nat → Bool) (n : Nat) : Array Value := ((List.range n).map fun m => Value.bool (f m)).toArray
theorem marksA_get {f : Nat → Bool} {n m : Nat} (h : m < n) : (marksA f n)[m]? = some (.bool (f m)) := by simp [marksA, h]
theorem marksA_set (f : Nat → Bool) (n q : Nat) : (marksA f n).setIfInBounds q (.bool true) = marksA (fun m => f m || m == q) n := by
  apply Array.ext
  · simp [marksA]
  · intro j h1 h2
    simp only [marksA, Array.size_setIfInBounds, List.size_toArray, List.length_map, List.length_range] at h1
    have h3 : j < (marksA f n).size := by simpa [marksA] using h1
    rw [Array.getElem_setIfInBounds h3]
    by_cases e : q = j
    · subst e; simp [marksA]
    · rw [if_neg e]
      have e' : (j == q) = false := by rw [beq_eq_false_iff_ne]; exact fun h => e h.symm
      simp [marksA, e']
theorem marksA_one (n i : Nat) : (marksA (fun _ => false) n).setIfInBounds i (.bool true) = marksA (fun m => m == i) n :=
  (marksA_set (fun _ => false) n i).trans (congrArg (fun f => marksA f n) (by funext m; simp))
theorem marksA_zero (n : Nat) : Array.replicate n (Value.bool false) = marksA (fun _ => false) n := by
  simp [marksA, List.map_const']

/-- Marked nodes: value nodes up to i; the operands of those from k on are marked, too. -/
structure MK (L : List Nd) (i k : Nat) (f : Nat → Bool) : Prop where
  top : f i = true
  le : ∀ m, f m = true → m ≤ i
  val : ∀ m, f m = true → (L.getD m ⟨0, 0, []⟩).op ≠ 26
  kid : ∀ m, f m = true → k ≤ m → ∀ q ∈ (L.getD m ⟨0, 0, []⟩).kids, f q.toNat = true

structure DepOk (L : List Nd) (i : Nat) (D : List Nat) : Prop where
  asc : D.Pairwise (· < ·)
  top : i ∈ D
  le : ∀ m ∈ D, m ≤ i
  val : ∀ m ∈ D, (L.getD m ⟨0, 0, []⟩).op ≠ 26
  kid : ∀ m ∈ D, ∀ q ∈ (L.getD m ⟨0, 0, []⟩).kids, q.toNat ∈ D

def depsTo (f : Nat → Bool) (k : Nat) : List Nat := (List.range k).filter f
theorem depsTo_succ (f : Nat → Bool) (k : Nat) : depsTo f (k + 1) = if f k = true then depsTo f k ++ [k] else depsTo f k := by
  unfold depsTo
  rw [List.range_succ, List.filter_append]
  cases h : f k <;> simp [h]
theorem MK.deps {L : List Nd} {i : Nat} {f : Nat → Bool} (h : MK L i 0 f) : DepOk L i (depsTo f (i + 1)) := by
  refine ⟨List.Pairwise.filter _ List.pairwise_lt_range, List.mem_filter.2 ⟨List.mem_range.2 (by omega), h.top⟩, fun m hm => h.le m (List.mem_filter.1 hm).2, fun m hm => h.val m (List.mem_filter.1 hm).2, fun m hm q hq => ?_⟩
  have := h.kid m (List.mem_filter.1 hm).2 (by omega) q hq
  exact List.mem_filter.2 ⟨List.mem_range.2 (by have := h.le _ this; omega), this⟩
/-- One node's operands marked. -/
structure MK2 (L : List Nd) (i j t : Nat) (f : Nat → Bool) : Prop where
  base : MK L i (j + 1) f
  at_ : f j = true
  done : ∀ s, s < t → f ((L.getD j ⟨0, 0, []⟩).kids.getD s 0).toNat = true
theorem MK2.end_ {L : List Nd} {i j t : Nat} {f : Nat → Bool} (h : MK2 L i j t f) (ht : t = (L.getD j ⟨0, 0, []⟩).kids.length) : MK L i j f := by
  refine ⟨h.base.top, h.base.le, h.base.val, fun m hm hk q hq => ?_⟩
  by_cases e : m = j
  · subst e
    obtain ⟨s, hs, rfl⟩ := List.mem_iff_getElem.1 hq
    have := h.done s (by omega)
    rwa [getD_of hs] at this
  · exact h.base.kid m hm (by omega) q hq
theorem MK.skip {L : List Nd} {i j : Nat} {f : Nat → Bool} (h : MK L i (j + 1) f) (hf : f j = false) : MK L i j f :=
  ⟨h.top, h.le, h.val, fun m hm hk q hq => h.kid m hm (by
    rcases Nat.lt_or_ge j m with e | e
    · exact e
    · have : m = j := by omega
      subst this; rw [hf] at hm; cases hm) q hq⟩
theorem MK2.step {L : List Nd} (hv : VL L) {i j t : Nat} {f : Nat → Bool} (h : MK2 L i j t f) (hj : j < L.length) (ht : t < L[j].kids.length) : MK2 L i j (t + 1) (fun m => f m || m == (L[j].kids[t]).toNat) := by
  have hop : L[j].op ≠ 26 := by have := h.base.val j h.at_; rwa [getD_of hj] at this
  obtain ⟨_, hk⟩ := (hv j hj).resolve_left (fun e => hop e.1)
  obtain ⟨q1, q2, q3⟩ := hk _ (List.getElem_mem ht)
  have hji := h.base.le j h.at_
  refine ⟨⟨by simp [h.base.top], fun m hm => ?_, fun m hm => ?_, fun m hm hk' q hq => ?_⟩, by simp [h.at_], fun s hs => ?_⟩
  · simp only [Bool.or_eq_true, beq_iff_eq] at hm
    rcases hm with hm | rfl
    · exact h.base.le m hm
    · omega
  · simp only [Bool.or_eq_true, beq_iff_eq] at hm
    rcases hm with hm | rfl
    · exact h.base.val m hm
    · exact q3
  · simp only [Bool.or_eq_true, beq_iff_eq] at hm ⊢
    rcases hm with hm | rfl
    · exact .inl (h.base.kid m hm hk' q hq)
    · omega
  · simp only [Bool.or_eq_true, beq_iff_eq]
    by_cases e : s = t
    · subst e; right; rw [getD_of hj, getD_of ht]
    · exact .inl (h.done s (by omega))

theorem sort_v (w : World) (F : Nat → Prop) (LA : Option Addr) (lc : Nat) (L : List Nd) (i : Nat) (hL : NodesV w F LA L) (hc : L.length ≤ lc) (hi : i < L.length) (hn : L.length ≤ 100000000000) (hk : ∀ nd ∈ L, nd.kids.length ≤ 100000000000) (hv : VL L) :
    Calls Try.prog 27 #[.slice LA L.length lc, .int .i64 i] w fun e w' => e = .returned (.int .i64 (if L[i].op = 26 then 2 else 1)) ∧ Upd Non w w' := by
  refine (sort_c w F LA lc L i hL hc hi hn hk).mono fun e w' h => ?_
  have hl : (L.take (i + 1)).length = i + 1 := by simp; omega
  have h1 := (hv.take (i + 1)).sorts (i + 1) (by omega) i (by omega)
  unfold sortsF at h
  rw [hl, h1] at h
  have h2 : (L.take (i + 1)).getD i ⟨0, 0, []⟩ = L[i] := by
    rw [List.getD, List.getElem?_take_of_lt (by omega), List.getElem?_eq_getElem hi]; rfl
  rwa [h2] at h

def nats (D : List Nat) : List Int := D.map fun (m : Nat) => (m : Int)
def DepPost (L : List Nd) (i : Nat) (w : World) (e : Ending) (w' : World) : Prop :=
  ∃ D A c, DepOk L i D ∧ e = .returned (.slice A D.length c) ∧ Own w' 3 1 A D.length c (icells (nats D)) ∧ (∀ k, At A k → w.heap.size ≤ k) ∧ Upd Non w w'
theorem nats_snoc (D : List Nat) (k : Nat) : nats (D ++ [k]) = nats D ++ [(k : Int)] := by simp [nats]

set_option maxHeartbeats 2000000 in
set_option maxRecDepth 100000 in
theorem deps_c (w : World) (F : Nat → Prop) (LA : Option Addr) (lc : Nat) (L : List Nd) (i : Nat) (hL : NodesV w F LA L) (hc : L.length ≤ lc) (hi : i < L.length) (hn : L.length ≤ 100000000) (hk : ∀ nd ∈ L, nd.kids.length ≤ 100000000) (hv : VL L) (hop : L[i].op ≠ 26) :
    Calls Try.prog 28 #[.slice LA L.length lc, .int .i64 i] w (DepPost L i w) := by
  have C1 := Lib.hid (sort_v w F LA lc L i hL hc hi (by omega) (fun nd h => by have := hk nd h; omega) hv)
  rw [if_neg hop] at C1
  have HMK0 : Hid (MK L i (i + 1) (fun m => m == i)) := ⟨by simp, fun m hm => by simp at hm; omega, fun m hm => by
      simp at hm; subst hm; rwa [getD_of hi], fun m hm hk => by simp at hm; omega⟩
  have hmk : ∀ w : World, (Instr.makeSlice 67 (.int .i64 ((i : Int) + 1)) (.int .i64 ((i : Int) + 1))).run Try.prog w = .ok (.slice (some ⟨w.heap.size, 0, none⟩) (i + 1) (i + 1)) (w.alloc (.cells (Array.replicate (i + 1) (.bool false)) 4)) := fun w => by
    have h := run_mk (P := Try.prog) T_bools zero_bool rfl (i + 1) (by omega) (by omega) w
    rw [Int.natCast_add] at h
    exact h
  have HK := Lib.hid hk
  have HV := Lib.hid hv
  have hL := hL.mono (G := (· < w.heap.size)) (fun k hk _ => hk)
  clear hk hv hop
  go_enter Try.func28, Try.ntmps28
  go_wp2_with fail
  refine C1.out.mono ?_
  rintro e w1 ⟨rfl, hu1⟩
  have hL1 := hL.upd hu1 (fun _ _ _ f => f)
  have hsz := hu1.size
  simp only [marksA_zero] at hmk
  have hci := (Blk.new w1 4 (marksA (fun _ => false) (i + 1))).cell i
  rw [marksA_get (by omega)] at hci
  have hcf := (Blk.new w1 4 (marksA (fun _ => false) (i + 1))).frozen i
  obtain ⟨g, Hgg⟩ := nm w1.heap.size
  clear C1 hL
  go_wp2_with fail
  clear hmk hci hcf
  rw [marksA_one]
  have hbs := Blk.new w1 4 (marksA (fun m => m == i) (i + 1))
  have hu2 := hu1.alloc (.cells (marksA (fun m => m == i) (i + 1)) 4)
  have hL2 := hL1.upd (Upd.refl.alloc (.cells (marksA (fun m => m == i) (i + 1)) 4) (S := Non)) (fun _ _ _ f => f)
  obtain ⟨w2, Hw2⟩ := nm (w1.alloc (.cells (marksA (fun m => m == i) (i + 1)) 4))
  rw [Hw2.out] at hbs hu2 hL2 ⊢
  rw [Hgg.out] at hbs
  try rw [Hgg.out]
  have hg0 : w.heap.size ≤ g := by have := Hgg.out; omega
  clear hL1 Hw2 Hgg hsz
  go_loopg [6] (i + 1) (fun gh j wr => ∃ (t : Nat) (f : Nat → Bool), Hid (gh = t) ∧ t ≤ i + 1 ∧ j = .int .i64 ((t : Int) - 1) ∧ Hid (MK L i t f) ∧ Blk wr g 4 (marksA f (i + 1)) ∧ NodesV wr (· < w.heap.size) LA L ∧ Upd Non w wr)
  case atStart =>
    exact ⟨i + 1, _, rfl, by omega, congrArg (Value.int .i64) (by omega), HMK0, hbs, hL2, hu2⟩
  case round =>
    obtain ⟨t, f, Hg, ht, rfl, HMK, hb, hLr, hu⟩ := hrel
    clear hbs hL2 hu2 HMK0
    obtain ⟨wo, rfl⟩ : ∃ wo : World, wo = wr := ⟨_, rfl⟩
    match t, ht with
    | 0, _ =>
      have HD := Lib.hid HMK.out.deps
      have hz : ((0 : Nat) : Int) - 1 = -1 := by omega
      rw [hz]
      clear hz HMK
      go_wp2_with fail
      go_loopg [8, 9] (i + 1) (fun gh v k wr => ∃ (t c n : Nat) (A : Option Addr), Hid (gh = i + 1 - t) ∧ t ≤ i + 1 ∧ k = .int .i64 (t : Int) ∧ v = .slice A n c ∧ Hid ((depsTo f t).length = n) ∧ n ≤ t ∧ Own wr 3 1 A n c (icells (nats (depsTo f t))) ∧ Hid (∀ j, At A j → wo.heap.size ≤ j) ∧ Upd Non wo wr)
      case atStart => exact ⟨0, 0, 0, none, rfl, by omega, rfl, rfl, rfl, by omega, Own.none_, fun j hj => (At.none_ hj).elim, Upd.refl⟩
      case round =>
        obtain ⟨t, c, n, A, Hg, ht, rfl, rfl, Hn, hnt, ho, HA, hu3⟩ := hrel
        by_cases hlt : t < i + 1
        · have hb3 := hb.upd hu3 (fun f => f)
          have hcl := hb3.cell t
          rw [marksA_get hlt] at hcl
          have HS := Lib.hid (depsTo_succ f t)
          have hle : decide ((t : Int) ≤ (i : Int)) = true := by simp; omega
          have hle2 : decide (t ≤ i) = true := by simp; omega
          cases hf : f t with
          | false =>
            have HS2 : Hid (depsTo f (t + 1) = depsTo f t) := by show _ = _; rw [HS.out, hf]; simp
            rw [hf] at hcl
            clear hf HS
            go_wp2_with fail
            go_roundg (i + 1 - (t + 1))
            case measure => rw [Hg.out]; omega
            case rel => exact ⟨t + 1, c, n, A, rfl, by omega, by go_num, rfl, by show _ = _; rw [HS2.out, Hn.out], by omega, by rw [HS2.out]; exact ho, HA, hu3⟩
          | true =>
            have HS2 : Hid (depsTo f (t + 1) = depsTo f t ++ [t]) := by show _ = _; rw [HS.out, hf]; simp
            rw [hf] at hcl
            clear hf HS
            go_wp2_with (at_builtin; refine wpList_app rfl rfl T_ints' rfl (ho.alloc _) rfl (Sl.new _ _ _) rfl (by simp [Value.oneCell']) (by simp only [maxLen]; omega) (by omega) ?_; intro A3 c3 w3 ho3 hu4 hat3)
            go_roundg (i + 1 - (t + 1))
            case measure => rw [Hg.out]; omega
            case rel =>
              refine ⟨t + 1, c3, n + 1, A3, rfl, by omega, by go_num, rfl, by show _ = _; rw [HS2.out, ← Hn.out]; simp, by omega, by rw [HS2.out, nats_snoc, icells_snoc]; exact ho3, fun b hb => ?_, (hu3.alloc _).trans hu4 (fun i hi h => by have := HA.out i h; omega)⟩
              rcases hat3 b hb with h | h
              · exact HA.out b h
              · have := hu3.size; simp at h; omega
        · obtain rfl : t = i + 1 := by omega
          go_wp2_with fail
          go_ret
          refine ⟨depsTo f (i + 1), A, c, HD.out, by rw [Hn.out]; rfl, by rw [Hn.out]; exact ho, fun k hk => ?_, hu.then_non hu3⟩
          have := HA.out k hk; have := hu.size; omega
    | j + 1, ht =>
      have hz : ((j + 1 : Nat) : Int) - 1 = (j : Int) := by omega
      rw [hz]
      clear hz
      have hjl : j < L.length := by omega
      obtain ⟨lb, lo, rfl, hFl, hlb, hN⟩ := hLr.at_ hjl
      obtain ⟨h1, h2, KA, kc, h3, hkc, hki⟩ := hN
      have hkk := HK.out _ (List.getElem_mem hjl)
      have HGJ := Lib.hid (getD_of (d := (⟨0, 0, []⟩ : Nd)) hjl)
      cases hf : f j with
      | false =>
        have HMK2 := Lib.hid (HMK.out.skip hf)
        have hcl := hb.cell j
        rw [marksA_get (by omega), hf] at hcl
        generalize L[j] = nd at *
        clear hf HMK
        by_cases h0 : 0 < nd.kids.length
        · go_wp2_with fail
          go_loopg [7] 0 (fun gh k wr => gh = 0 ∧ k = .int .i64 0 ∧ wo = wr)
          case atStart => exact ⟨rfl, rfl, rfl⟩
          case round =>
            obtain ⟨rfl, rfl, rfl⟩ := hrel
            go_wp2_with fail
            go_roundg j
            case measure => rw [Hg.out]; omega
            case rel => exact ⟨j, f, rfl, by omega, rfl, HMK2, hb, hLr, hu⟩
        · have e0 : nd.kids.length = 0 := by omega
          rw [e0] at h3
          clear e0 h0
          go_wp2_with fail
          go_loopg [7] 0 (fun gh k wr => gh = 0 ∧ k = .int .i64 0 ∧ wo = wr)
          case atStart => exact ⟨rfl, rfl, rfl⟩
          case round =>
            obtain ⟨rfl, rfl, rfl⟩ := hrel
            go_wp2_with fail
            go_roundg j
            case measure => rw [Hg.out]; omega
            case rel => exact ⟨j, f, rfl, by omega, rfl, HMK2, hb, hLr, hu⟩
      | true =>
        have HMK2 : Hid (MK2 L i j 0 f) := ⟨HMK.out, hf, fun s hs => by omega⟩
        have HST := Lib.hid (fun (t : Nat) (f : Nat → Bool) (h : MK2 L i j t f) (ht : t < L[j].kids.length) => h.step HV.out hjl ht)
        have HVJ := Lib.hid (HV.out j hjl)
        have HKR : Hid (∀ q ∈ L[j].kids, 0 ≤ q ∧ q < j) := fun q hq => by
          rcases HV.out j hjl with ⟨_, _, h⟩ | ⟨_, h⟩
          · have := List.eq_nil_of_length_eq_zero h; rw [this] at hq; cases hq
          · exact ⟨(h q hq).1, (h q hq).2.1⟩
        have HEND := Lib.hid (fun (t : Nat) (f : Nat → Bool) (h : MK2 L i j t f) (ht : t = L[j].kids.length) => h.end_ (by rw [HGJ.out]; exact ht))
        clear HVJ
        generalize L[j] = nd at *
        clear hf HMK
        have hlo : lb < wo.heap.size := hlb
        go_wp2_with fail
        go_loopg [7] nd.kids.length (fun gh k wr => ∃ (t : Nat) (f : Nat → Bool), Hid (gh = nd.kids.length - t) ∧ t ≤ nd.kids.length ∧ k = .int .i64 (t : Int) ∧ Hid (MK2 L i j t f) ∧ Blk wr g 4 (marksA f (i + 1)) ∧ Upd (· = g) wo wr)
        case atStart => exact ⟨0, f, rfl, by omega, rfl, HMK2, hb, Upd.refl⟩
        case round =>
          obtain ⟨t, f', Hg2, htk, rfl, HM, hb2, hu2⟩ := hrel
          clear hb HMK2
          have hne : ¬ lb = g := by omega
          have g3 := cell_upd h3 hu2 hne
          have hki2 := hki.upd hu2 (fun k hk hF e => by omega)
          have hcl := hb2.cell j
          rw [marksA_get (by omega), HM.out.at_] at hcl
          by_cases hlt : t < nd.kids.length
          · obtain ⟨kb, ko, rfl, hFk, _, hck⟩ := hki2.at_ hlt
            have hr := HKR.out _ (List.getElem_mem hlt)
            have HM2 := Lib.hid (HST.out t f' HM.out hlt)
            generalize nd.kids[t] = q at *
            obtain ⟨q, rfl⟩ := Int.eq_ofNat_of_zero_le hr.1
            have hqi : q < i + 1 := by omega
            have hcq := hb2.cell q
            rw [marksA_get hqi] at hcq
            have hcf := hb2.frozen q
            have hbq := hb2.set_ q (.bool true)
            rw [marksA_set] at hbq
            clear hr
            go_wp2_with fail
            go_roundg (nd.kids.length - (t + 1))
            case measure => rw [Hg2.out]; omega
            case rel => exact ⟨t + 1, _, rfl, by omega, by go_num, HM2, by simpa using hbq, hu2.setCell (.inl rfl) _⟩
          · obtain rfl : t = nd.kids.length := by omega
            have HM3 := Lib.hid (HEND.out _ f' HM.out rfl)
            go_wp2_with fail
            go_roundg j
            case measure => rw [Hg.out]; omega
            case rel => exact ⟨j, f', rfl, by omega, rfl, HM3, hb2, hLr.upd hu2 (fun k _ hF e => by omega), hu.trans hu2 (fun i hi h => by omega)⟩
end Go.Proofs.Ytlehiklgbladoaa
