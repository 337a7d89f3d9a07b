/-
  What polynomial.Normalize does.
-/
import Derived.Test.YtnefhokojbkppaaPNf
import Derived.Test.YtnefhokojbkppaaSPoly
import Derived.Test.YtnefhokojbkppaaPVal3
import Derived.Test.YtnefhokojbkppaaMild
namespace Go.Proofs.Ytnefhokojbkppaa
open Go.RowKit

theorem nodup_len {α : Type} [DecidableEq α] : ∀ {a l : List α}, a.Nodup → (∀ x ∈ a, x ∈ l) → a.length ≤ l.length
  | [], _, _, _ => by simp
  | x :: a, l, h, hs => by
    have hx : x ∈ l := hs x (by simp)
    have h2 := List.nodup_cons.1 h
    have := nodup_len (l := l.erase x) h2.2 (fun y hy => (List.mem_erase_of_ne (fun q => h2.1 (by rw [← q]; exact hy))).2 (hs y (by simp [hy])))
    have hl := List.length_erase_of_mem hx
    have h0 : 0 < l.length := List.length_pos_of_mem hx
    simp only [List.length_cons]
    omega
theorem pairs_length (a b : PL) : (pairs a b).length = a.length * b.length := by
  unfold pairs
  induction a with
  | nil => simp
  | cons x a ih => rw [List.flatMap_cons, List.length_append, ih, List.length_cons, Nat.succ_mul]; simp [shiftP]; omega
theorem two_kids {kids : List Pt} {r : List PL} {n : Nat} (h : kids.map (tm n) = r.map some) (hb : ∀ k ∈ kids, ∀ l, tm n k = some l → l.length ≤ 2 ^ k.size) :
    ∃ x y, (r.getD 0 []).length ≤ 2 ^ x ∧ (r.getD 1 []).length ≤ 2 ^ y ∧ x + y ≤ Pt.sizeL kids := by
  cases kids with
  | nil =>
    have : r = [] := by simpa using h.symm
    subst this
    exact ⟨0, 0, by simp, by simp, by simp⟩
  | cons k kids =>
    cases r with
    | nil => simp at h
    | cons l r =>
      simp only [List.map_cons, List.cons.injEq] at h
      cases kids with
      | nil =>
        have : r = [] := by simpa using h.2.symm
        subst this
        exact ⟨k.size, 0, hb k (by simp) l h.1, by simp, by simp [Pt.sizeL]⟩
      | cons k2 ks =>
        cases r with
        | nil => simp at h
        | cons l2 ls =>
          simp only [List.map_cons, List.cons.injEq] at h
          exact ⟨k.size, k2.size, hb k (by simp) l h.1, hb k2 (by simp) l2 h.2.1, by simp only [Pt.sizeL]; omega⟩
theorem two_pow_add (x y : Nat) : 2 ^ x + 2 ^ y ≤ 2 ^ (1 + (x + y)) := by
  have h1 : 2 ^ x ≤ 2 ^ (x + y) := Nat.pow_le_pow_right (by omega) (by omega)
  have h2 : 2 ^ y ≤ 2 ^ (x + y) := Nat.pow_le_pow_right (by omega) (by omega)
  rw [Nat.pow_add 2 1]
  omega
theorem tm_len (n : Nat) (p : Pt) : ∀ l, tm n p = some l → l.length ≤ 2 ^ p.size := by
  induction p using Pt.ind with
  | h p ih =>
    intro l h
    rw [tm_eq] at h
    have hs := Pt.size_eq p
    have h1 : 1 ≤ 2 ^ p.size := Nat.one_le_two_pow
    split at h
    · injection h with h; subst h; simpa using h1
    · split at h
      · injection h with h; subst h; simpa using h1
      · split at h
        · split at h
          · cases h
          · rename_i l0 h0
            split at h
            · injection h with h; subst h
              have : some l0 ∈ p.kids.map (tm n) := by
                rw [← h0]
                by_cases q : 0 < (p.kids.map (tm n)).length
                · rw [getD_of q]; exact List.getElem_mem q
                · rw [List.getD, List.getElem?_eq_none (by omega)] at h0; cases h0
              obtain ⟨k, hk, hk2⟩ := List.mem_map.1 this
              have := ih k hk l0 hk2
              have h3 : 2 ^ k.size ≤ 2 ^ p.size := Nat.pow_le_pow_right (by omega) (by have := Pt.kids_lt hk; omega)
              simp only [scale, List.length_map]
              omega
            · cases h
        · split at h
          · cases h
          · rename_i r hr
            obtain ⟨x, y, hx, hy, hxy⟩ := two_kids (allSome_len hr) ih
            have h3 : 2 ^ (1 + (x + y)) ≤ 2 ^ p.size := Nat.pow_le_pow_right (by omega) (by omega)
            have h4 := two_pow_add x y
            have h5 : (r.getD 0 []).length * (r.getD 1 []).length ≤ 2 ^ x * 2 ^ y := Nat.mul_le_mul hx hy
            rw [← Nat.pow_add] at h5
            have h6 : 2 ^ (x + y) ≤ 2 ^ (1 + (x + y)) := Nat.pow_le_pow_right (by omega) (by omega)
            have h7 : 1 ≤ 2 ^ y := Nat.one_le_two_pow
            unfold combine at h
            split at h
            · injection h with h; subst h; rw [List.length_append]; omega
            · split at h
              · injection h with h; subst h; rw [List.length_append]; simp only [scale, List.length_map]; omega
              · split at h
                · injection h with h; subst h; rw [pairs_length]; omega
                · split at h
                  · injection h with h; subst h; simp only [scale, List.length_map]; omega
                  · split at h
                    · injection h with h; subst h; simp only [scale, List.length_cons, List.length_map]; omega
                    · cases h

theorem T_strs : SlT Try.prog 66 9 1 16 := by
  obtain ⟨i, h1, h2, h3, h4⟩ := info_parts (show (Try.prog.info? 9).map (fun i => (i.zero, i.size, i.bytes)) = some (some (.string ByteArray.empty), 1, 16) from by kernel_rfl)
  exact ⟨Try.underlying66, ⟨i, _, h1, h2, h3, h4, rfl⟩, by omega⟩
/-- A normal form as a list of monomials. -/
def exps (k : Mon) : List Int := k.map fun x => (x.toNat : Int)
def mns (r : PL) : List Mn := r.map fun t => (exps t.1, t.2)
/-- What Normalize hands back. -/
def NzRet (n : Nat) (w : World) (o : Option PL) (e : Ending) (w' : World) : Prop :=
  match o with
  | none => e = .returned (.tuple #[.slice none 0 0, .bool false])
  | some l => ∃ r A c, e = .returned (.tuple #[.slice A r.length c, .bool true]) ∧ NF n r ∧ Eqv r l ∧ MonsV w' (fun k => w.heap.size ≤ k) A (mns r) ∧ r.length ≤ c ∧ r.length ≤ 16777216
def normF (p : Pt) (vars : Int) : Option PL := if validF p vars 0 then tm vars.toNat p else none
theorem kstr_kx (s : ByteArray) : kstr (kx s) = s := kx_inj (kx_kstr _)
/-- The keys with a coefficient. -/
def keysOf (L : List (ByteArray × Int)) : List Mon := (L.filter fun x => decide (x.2 ≠ 0)).map fun x => kx x.1
theorem keysOf_nodup {L : List (ByteArray × Int)} (h : (L.map (·.1)).Nodup) : (keysOf L).Nodup := by
  unfold keysOf
  have h1 : (L.map fun x => kx x.1).Nodup := by
    have : (L.map fun x => kx x.1) = (L.map (·.1)).map kx := by simp
    rw [this]
    exact List.pairwise_map.2 (h.imp fun q e => q (kx_inj e))
  exact h1.sublist ((List.filter_sublist).map _)
theorem keysOf_snoc (L : List (ByteArray × Int)) (s : ByteArray) (c : Int) : keysOf (L ++ [(s, c)]) = keysOf L ++ (if c ≠ 0 then [kx s] else []) := by
  unfold keysOf
  rw [List.filter_append, List.map_append]
  congr 1
  by_cases h : c = 0 <;> simp [h]
theorem keysOf_len (L : List (ByteArray × Int)) : (keysOf L).length ≤ L.length := by
  unfold keysOf
  rw [List.length_map]
  exact List.length_filter_le _ _

set_option maxRecDepth 100000 in
set_option maxHeartbeats 4000000 in
theorem pNormalize_c (p : Pt) (w : World) (F : Nat → Prop) (KA : Option Addr) (kc : Nat) (vars : Int) (hp : PtK w F p KA kc) (hs : p.size ≤ 1000000000000) :
    Calls Try.prog 10 #[pv p KA kc, .int .i64 vars] w fun e w' => NzRet vars.toNat w (normF p vars) e w' ∧ Upd Non w w' := by
  obtain ⟨W, HW⟩ := nm (w.alloc (.cells #[.int .i64 p.v, .int .i64 p.op, .int .i64 p.imm, .int .i64 p.iv, .slice KA p.kids.length kc] 24))
  have hU : Upd Non w W := by rw [← HW.out]; exact Upd.refl.alloc _
  have hb : Blk W w.heap.size 24 #[.int .i64 p.v, .int .i64 p.op, .int .i64 p.imm, .int .i64 p.iv, .slice KA p.kids.length kc] := by rw [← HW.out]; exact Blk.new _ _ _
  have e0 := HW.out
  have hpW := PtK.upd hU (fun _ _ _ f => f) p KA kc hp
  have C1 := Lib.hid (ptValid_c p W F KA kc vars 0 hpW hs)
  have c0 := hb.cell 0
  have c1 := hb.cell 1
  have c2 := hb.cell 2
  have c3 := hb.cell 3
  have c4 := hb.cell 4
  have hsz := hU.size
  unfold pv at C1 ⊢
  obtain ⟨R, HR⟩ := nm (normF p vars)
  rw [HR.out]
  cases hv : validF p vars 0 with
  | false =>
    have HR2 : Hid (R = none) := by show _ = _; rw [← HR.out]; unfold normF; rw [hv]; rfl
    rw [hv] at C1
    clear hv
    go_enter Try.func10, Try.ntmps10
    go_wp2_with fail
    refine C1.out.mono ?_
    rintro e w2 ⟨rfl, hu2⟩
    go_wp2_with fail
    go_ret2
    exact ⟨by rw [HR2.out]; rfl, hU.then_non hu2⟩
  | true =>
    have HR2 : Hid (R = tm vars.toNat p) := by show _ = _; rw [← HR.out]; unfold normF; rw [hv]; rfl
    rw [hv] at C1
    obtain ⟨h1, hv2⟩ : (0 ≤ vars ∧ vars ≤ 6 ∧ p.size ≤ 24) ∧ (vPt p 0 0 (List.replicate vars.toNat 0)).1 = true := by
      unfold validF at hv
      simp only [Bool.and_eq_true, decide_eq_true_eq] at hv
      exact ⟨by omega, hv.2⟩
    have hwf := wf_of_vPt p _ _ _ hv2
    rw [List.length_replicate] at hwf
    obtain ⟨g1, g2, g24⟩ := h1
    obtain ⟨n, rfl⟩ := Int.eq_ofNat_of_zero_le g1
    rw [Int.toNat_natCast] at HR2 hwf
    have C2 := Lib.hid (fun (w : World) (u : Upd Non W w) => pnormalize_c n (by omega) p w F KA kc (PtK.upd u (fun _ _ _ f => f) p KA kc hpW) hwf hs)
    unfold pv at C2
    have HTL := Lib.hid (tm_len n p)
    have HTW := Lib.hid (tm_wd n p)
    clear hv hv2 hwf hp hpW
    cases ht : tm n p with
    | none =>
      rw [ht] at C2 HR2
      clear ht
      go_enter Try.func10, Try.ntmps10
      go_wp2_with fail
      refine C1.out.mono ?_
      rintro e w2 ⟨rfl, hu2⟩
      have c0 := cell_upd c0 hu2 (fun f => f)
      have c1 := cell_upd c1 hu2 (fun f => f)
      have c2 := cell_upd c2 hu2 (fun f => f)
      have c3 := cell_upd c3 hu2 (fun f => f)
      have c4 := cell_upd c4 hu2 (fun f => f)
      go_wp2_with fail
      refine (C2.out _ hu2).mono ?_
      rintro e w3 ⟨hret, hu3⟩
      obtain rfl : e = _ := hret
      go_wp2_with fail
      go_ret2
      exact ⟨by rw [HR2.out]; rfl, (hU.then_non hu2).then_non hu3⟩
    | some l =>
      have hll : l.length ≤ 16777216 := Nat.le_trans (HTL.out l ht) (Nat.le_trans (Nat.pow_le_pow_right (by omega) g24) (by decide))
      rw [ht] at C2 HR2
      clear ht HTL
      go_enter Try.func10, Try.ntmps10
      go_wp2_with fail
      refine C1.out.mono ?_
      rintro e w2 ⟨rfl, hu2⟩
      have c0 := cell_upd c0 hu2 (fun f => f)
      have c1 := cell_upd c1 hu2 (fun f => f)
      have c2 := cell_upd c2 hu2 (fun f => f)
      have c3 := cell_upd c3 hu2 (fun f => f)
      have c4 := cell_upd c4 hu2 (fun f => f)
      go_wp2_with fail
      refine (C2.out _ hu2).mono ?_
      rintro e w3 ⟨⟨rb, rfl, hrb, m, hpm, hrm⟩, hu3⟩
      have HU3 : Upd Non w w3 := (hU.then_non hu2).then_non hu3
      have hsz3 := HU3.size
      have HRM := Lib.hid hrm
      have hsz2 := hu2.size
      have hlrb := hpm.lt
      obtain ⟨k0, o, hrange, hit0⟩ := hpm.range (P := Try.prog) Try.underlying63
      clear C1 C2 c0 c1 c2 c3 c4 hb hrm hpm
      go_wp2_with fail
      go_loopg [8, 9] k0 (fun g v _ wr => ∃ L A k c, v = .slice A k c ∧ Hid (k = (keysOf L).length) ∧ PIter wr w3.heap.size rb m L g ∧ Own wr 9 1 A k c (strCs (keysOf L)) ∧ Hid (∀ j, At A j → w3.heap.size < j) ∧ Hid ((L.map (·.1)).Nodup) ∧ Upd Non w wr ∧ w3.heap.size < wr.heap.size)
      case atStart => exact ⟨[], none, 0, 0, rfl, rfl, hit0, Own.none_, fun j hj => (At.none_ hj).elim, by show List.Nodup _; simp, HU3.alloc _, by simp⟩
      case round =>
        clear hit0 hrange
        obtain ⟨L, A, k, c, rfl, HK, hit, ho, HA, HN, hu, hlt⟩ := hrel
        rcases hit.next (P := Try.prog) 0 with ⟨hnext, hall⟩ | ⟨s, d, k', w4, hk, hm, hnew, hnext, hu4, hit4, hentry⟩
        · have hrm := HRM.out
          have hkn : ∀ key ∈ keysOf L, key.length = n := fun key hkey => by
            obtain ⟨x, hx, rfl⟩ := List.mem_map.1 hkey
            rw [kx_len]
            exact (hrm.ent _ _ (hit.some_ x (List.mem_filter.1 hx).1)).1
          have hNF := NF.of_keys (n := n) (l := l) (ks := keysOf L) (f := fun k => (m (kstr k)).getD 0) (keysOf_nodup HN.out) hkn (fun k => by rw [hrm.val, kx_kstr]) (fun key => by
            unfold keysOf
            constructor
            · intro hk
              obtain ⟨x, hx, rfl⟩ := List.mem_map.1 hk
              obtain ⟨hx1, hx2⟩ := List.mem_filter.1 hx
              rw [kstr_kx, hit.some_ x hx1]
              simpa using hx2
            · intro hk
              cases hmk : m (kstr key) with
              | none => rw [hmk] at hk; simp at hk
              | some c =>
                rw [hmk] at hk
                exact List.mem_map.2 ⟨(kstr key, c), List.mem_filter.2 ⟨hall _ _ hmk, by simpa using hk⟩, kx_kstr key⟩)
          obtain ⟨S, HS⟩ := nm (monSort (keysOf L))
          rw [HS.out] at hNF
          have HNF := Lib.hid hNF
          have hkS : ∀ key ∈ S, key.length = n := fun key h => hkn key (by rw [← HS.out] at h; exact (monSort_perm _).mem_iff.1 h)
          have HKS := Lib.hid hkS
          have hSk : S.length = k := by rw [← HS.out, (monSort_perm _).length_eq, HK.out]
          have hkl : k ≤ 16777216 := by
            have h2 := hit.some_
            have h3 := nodup_len (a := L.map fun x => kx x.1) (l := l.map (·.1)) (by
              have : L.map (fun x => kx x.1) = (L.map (·.1)).map kx := by simp
              rw [this]
              exact List.pairwise_map.2 (HN.out.imp fun q e => q (kx_inj e))) (fun y hy => by
              obtain ⟨x, hx, rfl⟩ := List.mem_map.1 hy
              obtain ⟨t, ht, e⟩ := hrm.sup _ _ (h2 x hx)
              exact List.mem_map.2 ⟨t, ht, e⟩)
            have h1 := keysOf_len L
            have h2 := HK.out
            simp only [List.length_map] at h3
            omega
          have hpr := hit.pmap
          have C3 := Lib.hid (sortStrings_c wr A k c (keysOf L) ho (by omega))
          rw [HS.out] at C3
          have hAl : ∀ j, At A j → j < wr.heap.size := fun j hj => ho.lt hj
          clear hNF hkn hkS hall hit ho HN hrm
          go_wp2_with fail
          refine C3.out.mono ?_
          rintro e w5 ⟨rfl, ho5, hu5⟩
          have HU5 : Upd Non w w5 := hu.trans hu5 (fun i hi h => by have := HA.out i h; omega)
          have hp5 := hpr.upd hu5 (fun h => by have := HA.out _ h; omega)
          have hs5 := hu5.size
          have HAl := Lib.hid hAl
          clear C3 hpr hu5 hAl
          go_wp2_with fail
          go_loopg [11, 13, 14, 15, 45] k (fun g v _ _ _ i wr => ∃ (j : Nat) (B : Option Addr) (bc : Nat), Hid (g = k - j) ∧ j ≤ k ∧ i = .int .i64 j ∧ v = .slice B j bc ∧ MonsO wr (fun x => w.heap.size ≤ x) B j bc (mns ((S.take j).map fun k => (k, (m (kstr k)).getD 0))) ∧ Hid (∀ x, At B x → w5.heap.size ≤ x) ∧ Upd Non w5 wr)
          case atStart => exact ⟨0, none, 0, rfl, by omega, rfl, rfl, MonsO.none_, fun j hj => (At.none_ hj).elim, Upd.refl⟩
          case round =>
            obtain ⟨j, B, bc, Hg, hj, rfl, rfl, hmo, HB, hu6⟩ := hrel
            by_cases hlt6 : j < k
            · obtain ⟨wo, rfl⟩ : ∃ wo : World, wo = wr := ⟨_, rfl⟩
              have hjS : j < S.length := by omega
              have hkey := HKS.out S[j] (List.getElem_mem hjS)
              obtain ⟨g, rfl⟩ := ho5.some_ (by omega)
              have hgw : g < w5.heap.size := ho5.lt (At.some_.2 rfl)
              have d0 : wo.cell? ⟨g, j, none⟩ = some (.string (kstr S[j])) := by
                rw [cell_upd (ho5.cell_ (i := j) (by simpa [strCs] using hjS)) hu6 (fun f => f)]
                simp [strCs, kstr]
              have HTK : Hid ((S.take (j + 1)).map (fun k => (k, (m (kstr k)).getD 0)) = (S.take j).map (fun k => (k, (m (kstr k)).getD 0)) ++ [(S[j], (m (kstr S[j])).getD 0)]) := by
                show _ = _
                rw [List.take_add_one, List.getElem?_eq_getElem hjS, List.map_append]; rfl
              generalize S[j] = key at *
              have hlook := (hp5.upd hu6 (fun f => f)).look (P := Try.prog) Try.underlying63 Try.underlying9 (zeroU _) (kstr key)
              obtain ⟨cf, Hcf⟩ := nm ((m (kstr key)).getD 0)
              rw [Hcf.out] at hlook HTK
              obtain ⟨W7, HW7⟩ := nm (wo.alloc (.cells #[.slice none 0 0, .int .u64 cf] 32))
              have e7 := HW7.out
              have hu7 : Upd Non wo W7 := by rw [← e7]; exact Upd.refl.alloc _
              have hs7 : W7.heap.size = wo.heap.size + 1 := by rw [← e7]; simp
              have hb7 : Blk W7 wo.heap.size 32 #[.slice none 0 0, .int .u64 cf] := by rw [← e7]; exact Blk.new _ _ _
              have hs6 := hu6.size
              have hx := fun (i : Nat) (hi : i < n) w => run_at_str (s := kstr key) (n := n) (by rw [kstr_size, hkey]) hi w
              rw [kx_kstr] at hx
              have HX := Lib.hid hx
              have HKL := Lib.hid hkey
              have HJ := Lib.hid hj
              clear hkey hj hx
              go_wp2_with fail
              go_loopg [15] n (fun gg v wx => ∃ (i : Nat) (E : Option Addr) (ec : Nat), Hid (gg = n - i) ∧ i ≤ n ∧ v = .int .i64 i ∧ Blk wx wo.heap.size 32 #[.slice E i ec, .int .u64 cf] ∧ Own wx 3 1 E i ec (icells ((exps key).take i)) ∧ Hid (∀ x, At E x → wo.heap.size < x) ∧ Upd Non wo wx)
              case atStart => exact ⟨0, none, 0, rfl, by omega, rfl, hb7, by simpa [icells] using Own.none_, fun x hx => (At.none_ hx).elim, hu7⟩
              case round =>
                obtain ⟨i, E, ec, Hgi, hi, rfl, hbx, hox, HE, hux⟩ := hrel
                by_cases hli : i < n
                · have x1 := HX.out i hli
                  obtain ⟨y1, H1⟩ := nm (key.getD i 0)
                  rw [H1.out] at x1
                  have hy := y1.toNat_lt
                  have x2 : IntKind.i64.wrap (y1.toNat : Int) = (y1.toNat : Int) := i64w_of (by unfold I64; omega)
                  have m0 : wr.cell? ⟨wo.heap.size, 0, none⟩ = some (.slice E i ec) := hbx.cell 0
                  go_wp2_with fail
                  obtain ⟨wD, HwD⟩ := nm wr.drew
                  have uD : Upd Non wr wD := by rw [← HwD.out]; exact Upd.refl.drew
                  have m0D := cell_upd m0 uD (fun f => f)
                  have hbD := hbx.upd uD (fun f => f)
                  have hoD := hox.upd uD (fun _ _ f => f)
                  have hsux := hux.size
                  have hsD := uD.size
                  refine wp_region_held_drew (S := fun _ => True) (by kernel_rfl) trivial (fun hHeld => ?_)
                  rw [HwD.out]
                  refine wpAnyH_take (i := 0) (v := ?_) rfl (by kernel_rfl) (by kernel_rfl) (by kernel_rfl) (fun _ _ _ h => h) (Or.inl ⟨by rfl, ?_⟩) (by assumption) ?_
                  rotate_left
                  · intro w hSw; (try dsimp only at hSw); go_simp; try with_reducible rfl
                  try simp only [put_y]
                  try simp only [Act.put]
                  try simp only [put_z]
                  refine wpAnyH_take (i := 2) (v := ?_) rfl (by kernel_rfl) (by kernel_rfl) (by kernel_rfl) (fun _ _ _ h => h) (Or.inl ⟨by rfl, ?_⟩) (by assumption) ?_
                  rotate_left
                  · intro w hSw; (try dsimp only at hSw); go_simp; try with_reducible rfl
                  try simp only [put_y]
                  try simp only [Act.put]
                  try simp only [put_z]
                  refine wpAnyH_take (i := 3) (v := ?_) rfl (by kernel_rfl) (by kernel_rfl) (by kernel_rfl) (fun _ _ _ h => h) (Or.inl ⟨by rfl, ?_⟩) (by assumption) ?_
                  rotate_left
                  · intro w hSw; (try dsimp only at hSw); go_simp; try with_reducible rfl
                  try simp only [put_y]
                  try simp only [Act.put]
                  try simp only [put_z]
                  refine wpAnyH_take (i := 4) (v := ?_) rfl (by kernel_rfl) (by kernel_rfl) (by kernel_rfl) (fun _ _ _ h => h) (Or.inl ⟨by rfl, ?_⟩) (by assumption) ?_
                  rotate_left
                  · intro w hSw; (try dsimp only at hSw); go_simp; try with_reducible rfl
                  try simp only [put_y]
                  try simp only [Act.put]
                  try simp only [put_z]
                  refine wpAnyH_take (i := 5) (v := ?_) rfl (by kernel_rfl) (by kernel_rfl) (by kernel_rfl) (fun _ _ _ h => h) (Or.inl ⟨by rfl, ?_⟩) (by assumption) ?_
                  rotate_left
                  · intro w hSw; (try dsimp only at hSw); go_simp; try with_reducible rfl
                  try simp only [put_y]
                  try simp only [Act.put]
                  try simp only [put_z]
                  refine wpAnyH_takeM (fun w' => w'.cell? ⟨wo.heap.size, 0, none⟩ = some (.slice E i ec)) (calm_cell _ _) [7, 8, 9] (i := 1) (v := ?_) rfl (by kernel_rfl) (by kernel_rfl) (by kernel_rfl) (by kernel_rfl) (fun _ _ _ h => h) (Or.inl ⟨by rfl, ?_⟩) (m0D) (by assumption) ?_
                  rotate_left
                  · intro w hSw; (try dsimp only at hSw); go_simp; try with_reducible rfl
                  try simp only [put_y]
                  try simp only [Act.put]
                  try simp only [put_z]
                  refine wpAnyH_ready (rs := [6]) (by kernel_rfl) (by simp) ?_
                  refine AllReadyH.cons rfl (fun K hK => ?_) AllReadyH.nil
                  go_simp
                  refine hK.out _ _ ?_ (fun hHeld => ?_)
                  · exact trivial
                  clear hK K
                  try simp only [put_y]
                  try simp only [Act.put]
                  try simp only [put_z]
                  refine wpAnyH_ready (rs := [7]) (by kernel_rfl) (by simp) ?_
                  refine AllReadyH.cons rfl (fun K hK => ?_) AllReadyH.nil
                  refine step_app rfl rfl T_ints' rfl (hoD.alloc _) rfl (Sl.new _ _ _) rfl (by simp [Value.oneCell']) (by simp only [maxLen]; omega) (by omega) ?_
                  intro E4 c4 w4 ho4 hu4 hat4
                  have hb4 : Blk w4 wo.heap.size 32 #[.slice E i ec, .int .u64 cf] := (hbD.alloc _).upd hu4 (fun h => by have := HE.out _ h; omega)
                  have m4 := hb4.cell 0
                  have f4 := hb4.frozen 0
                  refine hK.out _ _ ?_ (fun hHeld => ?_)
                  · exact trivial
                  clear hK K
                  try simp only [put_y]
                  try simp only [Act.put]
                  try simp only [put_z]
                  refine wpAnyH_take (i := 8) (v := ?_) rfl (by kernel_rfl) (by kernel_rfl) (by kernel_rfl) (fun _ _ _ h => h) (Or.inl ⟨by rfl, ?_⟩) (by assumption) ?_
                  rotate_left
                  · intro w hSw; (try dsimp only at hSw); go_simp; try with_reducible rfl
                  try simp only [put_y]
                  try simp only [Act.put]
                  try simp only [put_z]
                  refine wpAnyH_ready (rs := [9]) (by kernel_rfl) (by simp) ?_
                  refine AllReadyH.cons rfl (fun K hK => ?_) AllReadyH.nil
                  go_simp
                  refine hK.out _ _ ?_ (fun hHeld => ?_)
                  · exact trivial
                  clear hK K
                  try simp only [put_y]
                  try simp only [Act.put]
                  try simp only [put_z]
                  refine wpAnyH_done (by kernel_rfl) ?_ _
                  have hb5 := hb4.set_ 0 (.slice E4 (i + 1) c4)
                  have u5 : Upd (· = wo.heap.size) w4 (w4.setCell ⟨wo.heap.size, 0, none⟩ (.slice E4 (i + 1) c4)) := updCell _ _ _ _
                  have HE4 : Hid (∀ x, At E4 x → wo.heap.size < x) := fun x hx => by
                    rcases hat4 x hx with h | h
                    · exact HE.out x h
                    · rw [h]
                      have := hbx.lt
                      simp; omega
                  have ho5 := ho4.upd u5 (fun x hx e => by have := HE4.out x hx; omega)
                  have HU : Upd Non wo (w4.setCell ⟨wo.heap.size, 0, none⟩ (.slice E4 (i + 1) c4)) := (((hux.then_non uD).alloc (.cells #[.int .i64 (y1.toNat : Int)] 3)).trans hu4 (fun x hx h => by have := HE.out x h; omega)).trans u5 (fun x hx e => by omega)
                  have HC : Hid (icells ((exps key).take i) ++ [.int .i64 (y1.toNat : Int)] = icells ((exps key).take (i + 1))) := by
                    show _ = _
                    have hlk : i < (exps key).length := by unfold exps; rw [List.length_map, HKL.out]; exact hli
                    rw [List.take_add_one, List.getElem?_eq_getElem hlk]
                    simp only [icells, List.map_append, Option.toList, List.map_cons, List.map_nil, ← H1.out]
                    congr 3
                    simp only [exps, List.getElem_map]
                    rw [getD_of (by rw [HKL.out]; exact hli)]
                  rw [HC.out] at ho5
                  clear hb4 m4 f4 ho4 hbD hoD m0D hbx hox m0 u5
                  go_wp2_with fail
                  go_roundg (n - (i + 1))
                  case measure => rw [Hgi.out]; omega
                  case rel => exact ⟨i + 1, E4, c4, rfl, by omega, by go_num, by simpa using hb5, ho5, HE4, HU⟩
                · obtain rfl : n = i := by omega
                  have hel : (exps key).length = n := by unfold exps; rw [List.length_map, HKL.out]
                  rw [List.take_of_length_le (Nat.le_of_eq hel)] at hox
                  have hsux := hux.size
                  have hEl := hox.le
                  have hBl : ∀ x, At B x → x < wo.heap.size := fun x hx => by obtain ⟨_, cs, ho, _⟩ := hmo; exact ho.lt hx
                  have hmr := hmo.upd hux (fun _ _ f => f) (fun _ _ _ f => f)
                  have m0 := hbx.cell 0
                  have m1 := hbx.cell 1
                  have hsw := HU5.size
                  have hEI : Ints wr (fun k => w.heap.size ≤ k ∧ ¬ At B k) E (exps key) := hox.ints.mono (fun x _ hx => ⟨by have := HE.out x hx; omega, fun hb => by have := HE.out x hx; have := hBl x hb; omega⟩)
                  have HBl := Lib.hid hBl
                  have HUx := hu6.then_non hux
                  have hsx := HUx.size
                  have HEL := Lib.hid hel
                  obtain ⟨hj1, cs, hoc, hcc⟩ := id hmr
                  have HJL := Lib.hid hj1
                  have HJ2 := HJ.out
                  clear hmo hux hox hbx hBl hel hj1
                  go_wp2_with (at_builtin; refine wpList_app rfl rfl T_monos rfl (hoc.alloc _) rfl (Sl.new _ _ _) rfl (by simp [Value.oneCell']) (by simp only [maxLen]; omega) (by omega) ?_; intro A8 c8 w8 ho8 hu8 hat8)
                  have hal := Upd.refl.alloc (S := Non) (w := wr) (.cells #[.slice E n ec, .int .u64 cf] 32)
                  have hsn := MonsO.snoc (m := (exps key, cf)) (G' := fun x => w.heap.size ≤ x) (hmr.upd hal (fun _ _ f => f) (fun _ _ _ f => f)) (hcc.mono hal (fun _ _ _ f => f) (fun _ _ h => h)) (hEI.upd hal (fun _ _ _ f => f)) (by show (exps key).length ≤ ec; rw [HEL.out]; exact hEl) (by show Own _ _ _ _ _ _ (cs ++ [.slice E (exps key).length ec, _]); rw [HEL.out]; exact ho8) hu8 hat8 (fun _ _ h => h)
                  have HU8 : Upd Non w5 w8 := (HUx.alloc (.cells #[.slice E n ec, .int .u64 cf] 32)).trans hu8 (fun x hx h => by have := HB.out x h; omega)
                  have HB8 : Hid (∀ x, At A8 x → w5.heap.size ≤ x) := fun x hx => by
                    rcases hat8 x hx with h | h
                    · exact HB.out x h
                    · rw [h]; simp; omega
                  have hsn2 : MonsO w8 (fun x => w.heap.size ≤ x) A8 (j + 1) c8 (mns ((S.take (j + 1)).map fun k => (k, (m (kstr k)).getD 0))) := by
                    rw [HTK.out]
                    unfold mns
                    rw [List.map_append]
                    exact hsn
                  clear hsn hmr hoc hcc ho8 hu8 hat8 hEI hal m0 m1
                  go_wp2_with fail
                  go_roundg (k - (j + 1))
                  case measure => rw [Hg.out]; omega
                  case rel => exact ⟨j + 1, A8, c8, rfl, by omega, by go_num, rfl, hsn2, HB8, HU8⟩
            · obtain rfl : k = j := by omega
              have hle := hmo.le
              rw [List.take_of_length_le (by omega)] at hmo
              have HM := Lib.hid (hmo.view (F := fun x => w.heap.size ≤ x) (fun x hx => by have := HB.out x hx; have := HU5.size; omega) (fun _ _ h => h))
              clear hmo
              go_wp2_with fail
              go_ret2
              refine ⟨?_, HU5.then_non hu6⟩
              rw [HR2.out]
              refine ⟨_, B, bc, ?_, HNF.out.1, HNF.out.2, HM.out, ?_, ?_⟩ <;> simp [hSk] <;> omega
        · have hlt4 := hit4.lt
          have hus4 := hu4.size
          have ho4 : Own w4 9 1 A k c (strCs (keysOf L)) := ho.upd hu4 (fun j hj q => by have := HA.out j hj; omega)
          have HN4 : Hid (((L ++ [(s, d)]).map (·.1)).Nodup) := by
            show List.Nodup _
            rw [List.map_append]
            refine List.pairwise_append.2 ⟨HN.out, by simp, fun x hx y hy => ?_⟩
            simp only [List.map_cons, List.map_nil, List.mem_singleton] at hy
            subst hy
            obtain ⟨z, hz, rfl⟩ := List.mem_map.1 hx
            exact hnew z hz
          have hbound : (L ++ [(s, d)]).length ≤ l.length := by
            have h1 := HRM.out
            have h2 := hit4.some_
            have h3 := nodup_len (a := (L ++ [(s, d)]).map fun x => kx x.1) (l := l.map (·.1)) (by
              have : (L ++ [(s, d)]).map (fun x => kx x.1) = ((L ++ [(s, d)]).map (·.1)).map kx := by simp
              rw [this]
              exact List.pairwise_map.2 (HN4.out.imp fun q e => q (kx_inj e))) (fun y hy => by
              obtain ⟨x, hx, rfl⟩ := List.mem_map.1 hy
              obtain ⟨t, ht, e⟩ := h1.sup _ _ (h2 x hx)
              exact List.mem_map.2 ⟨t, ht, e⟩)
            simpa using h3
          have hkl : k ≤ 16777216 := by
            have h1 := keysOf_len L
            have h2 := HK.out
            simp only [List.length_append] at hbound
            omega
          have HU4 : Upd Non w w4 := hu.trans hu4 (fun i hi q => by omega)
          have HG := Lib.hid hk
          clear hm hnew hbound hit ho hk
          by_cases hd : d = 0
          · subst hd
            have HK4 : Hid (k = (keysOf (L ++ [(s, 0)])).length) := by show _ = _; rw [keysOf_snoc]; simpa using HK.out
            have ho5 : Own w4 9 1 A k c (strCs (keysOf (L ++ [(s, 0)]))) := by rw [keysOf_snoc]; simpa using ho4
            clear ho4
            go_wp2_with fail
            go_roundg k'
            case measure => rw [HG.out]; omega
            case rel => exact ⟨L ++ [(s, 0)], A, k, c, rfl, HK4, hit4, ho5, HA, HN4, HU4, by omega⟩
          · have hd1 : (d != 0) = true := by simpa using hd
            have HK4 : Hid (k + 1 = (keysOf (L ++ [(s, d)])).length) := by show _ = _; rw [keysOf_snoc]; simp [hd, HK.out]
            have HC : Hid (strCs (keysOf L) ++ [.string s] = strCs (keysOf (L ++ [(s, d)]))) := by
              show _ = _
              rw [keysOf_snoc, if_pos hd, strCs_snoc, kstr_kx]
            clear hd
            go_wp2_with (at_builtin; refine wpList_app rfl rfl T_strs rfl (ho4.alloc _) rfl (Sl.new _ _ _) rfl (by simp [Value.oneCell']) (by simp only [maxLen]; omega) (by omega) ?_; intro A5 c5 w5 ho5 hu5 hat5)
            rw [HC.out] at ho5
            have hs5 := hu5.size
            have HU5 : Upd Non w w5 := (HU4.alloc (.cells #[.string s] 9)).trans hu5 (fun i hi h => by have := HA.out i h; omega)
            have hit5 : PIter w5 w3.heap.size rb m (L ++ [(s, d)]) k' := (hit4.upd (Upd.refl.alloc (S := Non) _) (fun f => f) (fun f => f)).upd hu5 (fun h => by have := HA.out _ h; omega) (fun h => by have := HA.out _ h; omega)
            have HA5 : Hid (∀ j, At A5 j → w3.heap.size < j) := fun j hj => by
              rcases hat5 j hj with h | h
              · exact HA.out j h
              · rw [h]; simp; omega
            clear ho4 hat5 hit4
            have hsz5 : w3.heap.size < w5.heap.size := by simp at hs5; omega
            clear hs5 hu5
            go_wp2_with fail
            go_roundg k'
            case measure => rw [HG.out]; omega
            case rel => exact ⟨L ++ [(s, d)], A5, k + 1, c5, rfl, HK4, hit5, ho5, HA5, HN4, HU5, hsz5⟩
end Go.Proofs.Ytnefhokojbkppaa
