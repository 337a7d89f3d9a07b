/-
  What the reference's product and constant do.
-/
import Derived.Test.YtnefhokojbkppaaRMul
namespace Go.Proofs.Ytnefhokojbkppaa
open Go.RowKit

theorem zadd_take {x y : List Int} {j : Nat} (h1 : j < x.length) (h2 : j < y.length) : (zadd x y).take (j + 1) = (zadd x y).take j ++ [x[j] + y[j]] := by
  have h : j < (zadd x y).length := by simp [zadd]; omega
  rw [take_snoc h]
  simp [zadd]
/-- Small exponents. -/
def SmallQ (q : Nat) (L : List Mn) : Prop := ∀ m ∈ L, m.1.length = q ∧ ∀ e ∈ m.1, 0 ≤ e ∧ e ≤ 1000000000000

set_option maxRecDepth 100000 in
set_option maxHeartbeats 4000000 in
theorem product_c (w : World) (F G : Nat → Prop) (A B : Option Addr) (c d : Nat) (La Lb : List Mn) (q : Nat) (hA : MonsV w F A La) (hB : MonsV w G B Lb) (ha : SmallQ q La) (hb : SmallQ q Lb) (hn : La.length ≤ 100000000) (hn2 : La.length * Lb.length ≤ 100000000) (hq : q ≤ 10000000000) :
    Calls Try.prog 56 #[.slice A La.length c, .slice B Lb.length d] w fun e w' => ∃ R c', e = .returned (.slice R (prodT La Lb).length c') ∧ MonsV w' (fun j => w.heap.size ≤ j) R (prodT La Lb) ∧ (prodT La Lb).length ≤ c' ∧ Upd Non w w' := by
  have HA := Lib.hid ha
  have HB := Lib.hid hb
  have HBQ : Hid (LenQ q Lb) := fun m hm => (hb m hm).1
  obtain ⟨n, Hn⟩ := nm La.length
  obtain ⟨m, Hm⟩ := nm Lb.length
  have HNM : Hid (n * m ≤ 100000000) := by show _ ≤ _; rw [← Hn.out, ← Hm.out]; exact hn2
  rw [Hn.out, Hm.out]
  rw [Hn.out] at hn
  clear ha hb hn2
  go_enter Try.func56, Try.ntmps56
  go_wp2_with fail
  go_loopg [5, 6, 7, 8, 9] n (fun g out i _ _ _ wr => ∃ (k nb cb : Nat) (R : Option Addr) (O : List Mn), Hid (g = n - k) ∧ k ≤ n ∧ out = .slice R nb cb ∧ i = .int .i64 k ∧ Hid (O = prodT (La.take k) Lb ∧ O.length = nb ∧ MonsV wr (fun j => w.heap.size ≤ j) R O ∧ LenQ q O ∧ nb ≤ k * m) ∧ nb ≤ cb ∧ Upd Non w wr)
  case atStart => exact ⟨0, 0, 0, none, [], rfl, by omega, rfl, rfl, ⟨rfl, rfl, MonsV.nil, LenQ.nil, by omega⟩, by omega, Upd.refl⟩
  case round =>
    obtain ⟨k, nb, cb, R, O, Hg, hk, rfl, rfl, HO, hnb, hu⟩ := hrel
    obtain ⟨wa, rfl⟩ : ∃ wa : World, wa = wr := ⟨_, rfl⟩
    by_cases hlt : k < n
    · have hkL : k < La.length := by rw [Hn.out]; exact hlt
      obtain ⟨b, o, rfl, hF, hbw, LA, lc, h0, h1, h2, h3⟩ := (hA.upd hu (fun _ _ _ f => f)).at_ hkL
      have hml := HA.out La[k] (List.getElem_mem hkL)
      have HPS : Hid (prodT (La.take (k + 1)) Lb = mulRow (prodT (La.take k) Lb) La[k] Lb) := by
        show _ = _
        rw [take_snoc hkL, prodT_snoc]
      have HNK : Hid (k * m + m ≤ 100000000) := by
        have h1 := HNM.out
        have h2 : (k + 1) * m ≤ n * m := Nat.mul_le_mul_right _ hlt
        rw [Nat.succ_mul] at h2
        show _ ≤ _
        omega
      have hmb : m ≤ 100000000 := by have := HNK.out; omega
      generalize La[k] = y at *
      obtain ⟨ye, yc⟩ := y
      dsimp only at h0 h1 h2 h3 hml
      obtain ⟨hml, hye⟩ := hml
      have HML := Lib.hid hml
      have HYE := Lib.hid hye
      rw [hml] at h0 h2
      clear hml hye
      have hlen0 := HO.out.2.1
      have hle0 := HO.out.2.2.2.2
      go_wp2_with fail
      go_loopg [5, 7, 8, 9] m (fun g out i _ _ wi => ∃ (j nb2 cb : Nat) (R : Option Addr) (O2 : List Mn), Hid (g = m - j) ∧ j ≤ m ∧ out = .slice R nb2 cb ∧ i = .int .i64 j ∧ Hid (O2 = mulRow O (ye, yc) (Lb.take j) ∧ O2.length = nb2 ∧ MonsV wi (fun j => w.heap.size ≤ j) R O2 ∧ LenQ q O2 ∧ nb2 ≤ nb + j) ∧ nb2 ≤ cb ∧ Upd Non wa wi)
      case atStart => exact ⟨0, nb, cb, R, O, rfl, by omega, rfl, rfl, ⟨rfl, HO.out.2.1, HO.out.2.2.1, HO.out.2.2.2.1, by omega⟩, hnb, Upd.refl⟩
      case round =>
        obtain ⟨j, nb2, cb2, R2, O2, Hg2, hj, rfl, rfl, HO2, hnb2, hu2⟩ := hrel
        obtain ⟨wi, rfl⟩ : ∃ wi : World, wi = wr := ⟨_, rfl⟩
        by_cases hlt2 : j < m
        · have hjL : j < Lb.length := by rw [Hm.out]; exact hlt2
          have huj := hu.then_non hu2
          obtain ⟨b2, o2, rfl, hG, hbw2, LB, ld, g0, g1, g2, g3⟩ := (hB.upd huj (fun _ _ _ f => f)).at_ hjL
          have hml2 := HB.out Lb[j] (List.getElem_mem hjL)
          have HRS : Hid (mulRow O (ye, yc) (Lb.take (j + 1)) = addT (mulRow O (ye, yc) (Lb.take j)) (zadd ye Lb[j].1, u64m (yc * Lb[j].2))) := by
            show _ = _
            rw [take_snoc hjL, mulRow_snoc]
          generalize Lb[j] = z at *
          obtain ⟨ze, zc⟩ := z
          dsimp only at g0 g1 g2 g3 hml2
          obtain ⟨hml2, hze⟩ := hml2
          have HML2 := Lib.hid hml2
          have HZE := Lib.hid hze
          rw [hml2] at g0 g2
          clear hml2 hze
          have h0i := cell_upd h0 hu2 (fun f => f)
          go_wp2_with fail
          go_loopg [8, 9] q (fun g p i wx => ∃ (x pc : Nat) (X : Option Addr), Hid (g = q - x) ∧ x ≤ q ∧ p = .slice X x pc ∧ i = .int .i64 x ∧ Own wx 3 1 X x pc (icells ((zadd ye ze).take x)) ∧ Hid (∀ k, At X k → wi.heap.size ≤ k) ∧ Upd Non wi wx)
          case atStart => exact ⟨0, 0, none, rfl, by omega, rfl, rfl, Own.none_, fun j hj => (At.none_ hj).elim, Upd.refl⟩
          case round =>
            obtain ⟨x, pc, X, Hg3, hx, rfl, rfl, ho, HX, hu3⟩ := hrel
            obtain ⟨wx, rfl⟩ : ∃ wx : World, wx = wr := ⟨_, rfl⟩
            by_cases hlt3 : x < q
            · have hxy : x < ye.length := by rw [HML.out]; exact hlt3
              have hxz : x < ze.length := by rw [HML2.out]; exact hlt3
              obtain ⟨eb, eo, rfl, _, heb, ec⟩ := (h3.upd hu2 (fun _ _ _ f => f)).at_ hxy
              obtain ⟨fb, fo, rfl, _, hfb, fc⟩ := g3.at_ hxz
              have HZT : Hid (icells ((zadd ye ze).take x) ++ [.int .i64 (ye[x] + ze[x])] = icells ((zadd ye ze).take (x + 1))) := by
                show _ = _
                rw [zadd_take hxy hxz, icells_snoc]
              have hy1 := HYE.out ye[x] (List.getElem_mem hxy)
              have hz1 := HZE.out ze[x] (List.getElem_mem hxz)
              generalize ye[x] = u at *
              generalize ze[x] = v at *
              have hx1 : IntKind.i64.wrap (u + v) = u + v := i64w_of (by unfold I64; omega)
              obtain ⟨wD, HwD⟩ := nm wx.drew
              have uD : Upd Non wx wD := by rw [← HwD.out]; exact Upd.refl.drew
              have hoD := ho.upd uD (fun _ _ f => f)
              have SS : ∀ w', Upd (At X) wx w' → w'.cell? ⟨b, o + k * 2, none⟩ = some (.slice (some ⟨eb, eo, none⟩) q lc) ∧ w'.cell? ⟨eb, eo + x, none⟩ = some (.int .i64 u) ∧ w'.cell? ⟨b2, o2 + j * 2, none⟩ = some (.slice (some ⟨fb, fo, none⟩) q ld) ∧ w'.cell? ⟨fb, fo + x, none⟩ = some (.int .i64 v) := by
                intro w' u
                have hbi := hu2.size
                have u5 : Upd Non wi w' := hu3.trans u (fun i hi h => by have := HX.out i h; omega)
                exact ⟨cell_upd h0i u5 (fun f => f), cell_upd ec u5 (fun f => f), cell_upd g0 u5 (fun f => f), cell_upd fc u5 (fun f => f)⟩
              have HSS := Lib.hid SS
              have h0x := cell_upd h0i hu3 (fun f => f)
              clear SS
              go_wp2_with fail
              refine wp_region_held_drew (S := fun w' => w'.cell? ⟨b, o + k * 2, none⟩ = some (.slice (some ⟨eb, eo, none⟩) q lc) ∧ w'.cell? ⟨eb, eo + x, none⟩ = some (.int .i64 u) ∧ w'.cell? ⟨b2, o2 + j * 2, none⟩ = some (.slice (some ⟨fb, fo, none⟩) q ld) ∧ w'.cell? ⟨fb, fo + x, none⟩ = some (.int .i64 v)) (by kernel_rfl) (by rw [HwD.out]; exact HSS.out _ (uD.mono (fun _ _ f => f.elim))) (fun hHeld => ?_)
              rw [HwD.out] at hHeld ⊢
              refine wpAnyH_take (i := 0) (v := ?_) rfl (by kernel_rfl) (by kernel_rfl) (by kernel_rfl) (fun _ _ _ h => h) (Or.inl ⟨by rfl, ?_⟩) (by assumption) ?_
              rotate_left
              · intro w hSw; (try dsimp only at hSw); go_simp; try with_reducible rfl
              try simp only [put_y]
              try simp only [Act.put]
              try simp only [put_z]
              refine wpAnyH_take (i := 1) (v := ?_) rfl (by kernel_rfl) (by kernel_rfl) (by kernel_rfl) (fun _ _ _ h => h) (Or.inl ⟨by rfl, ?_⟩) (by assumption) ?_
              rotate_left
              · intro w hSw; (try dsimp only at hSw); go_simp; try with_reducible rfl
              try simp only [put_y]
              try simp only [Act.put]
              try simp only [put_z]
              refine wpAnyH_take (i := 2) (v := ?_) rfl (by kernel_rfl) (by kernel_rfl) (by kernel_rfl) (fun _ _ _ h => h) (Or.inl ⟨by rfl, ?_⟩) (by assumption) ?_
              rotate_left
              · intro w hSw; (try dsimp only at hSw); go_simp; try with_reducible rfl
              try simp only [put_y]
              try simp only [Act.put]
              try simp only [put_z]
              refine wpAnyH_take (i := 3) (v := ?_) rfl (by kernel_rfl) (by kernel_rfl) (by kernel_rfl) (fun _ _ _ h => h) (Or.inl ⟨by rfl, ?_⟩) (by assumption) ?_
              rotate_left
              · intro w hSw; (try dsimp only at hSw); go_simp; try with_reducible rfl
              try simp only [put_y]
              try simp only [Act.put]
              try simp only [put_z]
              refine wpAnyH_take (i := 4) (v := ?_) rfl (by kernel_rfl) (by kernel_rfl) (by kernel_rfl) (fun _ _ _ h => h) (Or.inl ⟨by rfl, ?_⟩) (by assumption) ?_
              rotate_left
              · intro w hSw; (try dsimp only at hSw); go_simp; try with_reducible rfl
              try simp only [put_y]
              try simp only [Act.put]
              try simp only [put_z]
              refine wpAnyH_take (i := 5) (v := ?_) rfl (by kernel_rfl) (by kernel_rfl) (by kernel_rfl) (fun _ _ _ h => h) (Or.inl ⟨by rfl, ?_⟩) (by assumption) ?_
              rotate_left
              · intro w hSw; (try dsimp only at hSw); go_simp; try with_reducible rfl
              try simp only [put_y]
              try simp only [Act.put]
              try simp only [put_z]
              refine wpAnyH_take (i := 6) (v := ?_) rfl (by kernel_rfl) (by kernel_rfl) (by kernel_rfl) (fun _ _ _ h => h) (Or.inl ⟨by rfl, ?_⟩) (by assumption) ?_
              rotate_left
              · intro w hSw; (try dsimp only at hSw); go_simp; try with_reducible rfl
              try simp only [put_y]
              try simp only [Act.put]
              try simp only [put_z]
              refine wpAnyH_take (i := 7) (v := ?_) rfl (by kernel_rfl) (by kernel_rfl) (by kernel_rfl) (fun _ _ _ h => h) (Or.inl ⟨by rfl, ?_⟩) (by assumption) ?_
              rotate_left
              · intro w hSw; (try dsimp only at hSw); go_simp; try with_reducible rfl
              try simp only [put_y]
              try simp only [Act.put]
              try simp only [put_z]
              refine wpAnyH_take (i := 8) (v := ?_) rfl (by kernel_rfl) (by kernel_rfl) (by kernel_rfl) (fun _ _ _ h => h) (Or.inl ⟨by rfl, ?_⟩) (by assumption) ?_
              rotate_left
              · intro w hSw; (try dsimp only at hSw); go_simp; try with_reducible rfl
              try simp only [put_y]
              try simp only [Act.put]
              try simp only [put_z]
              refine wpAnyH_take (i := 9) (v := ?_) rfl (by kernel_rfl) (by kernel_rfl) (by kernel_rfl) (fun _ _ _ h => h) (Or.inl ⟨by rfl, ?_⟩) (by assumption) ?_
              rotate_left
              · intro w hSw; (try dsimp only at hSw); go_simp; try with_reducible rfl
              try simp only [put_y]
              try simp only [Act.put]
              try simp only [put_z]
              refine wpAnyH_take (i := 10) (v := ?_) rfl (by kernel_rfl) (by kernel_rfl) (by kernel_rfl) (fun _ _ _ h => h) (Or.inl ⟨by rfl, ?_⟩) (by assumption) ?_
              rotate_left
              · intro w hSw; (try dsimp only at hSw); go_simp; try with_reducible rfl
              try simp only [put_y]
              try simp only [Act.put]
              try simp only [put_z]
              refine wpAnyH_take (i := 11) (v := ?_) rfl (by kernel_rfl) (by kernel_rfl) (by kernel_rfl) (fun _ _ _ h => h) (Or.inl ⟨by rfl, ?_⟩) (by assumption) ?_
              rotate_left
              · intro w hSw; (try dsimp only at hSw); go_simp; try with_reducible rfl
              try simp only [put_y]
              try simp only [Act.put]
              try simp only [put_z]
              refine wpAnyH_take (i := 12) (v := ?_) rfl (by kernel_rfl) (by kernel_rfl) (by kernel_rfl) (fun _ _ _ h => h) (Or.inl ⟨by rfl, ?_⟩) (by assumption) ?_
              rotate_left
              · intro w hSw; (try dsimp only at hSw); go_simp; try with_reducible rfl
              try simp only [put_y]
              try simp only [Act.put]
              try simp only [put_z]
              refine wpAnyH_take (i := 13) (v := ?_) rfl (by kernel_rfl) (by kernel_rfl) (by kernel_rfl) (fun _ _ _ h => h) (Or.inl ⟨by rfl, ?_⟩) (by assumption) ?_
              rotate_left
              · intro w hSw; (try dsimp only at hSw); go_simp; try with_reducible rfl
              try simp only [put_y]
              try simp only [Act.put]
              try simp only [put_z]
              refine wpAnyH_take (i := 14) (v := ?_) rfl (by kernel_rfl) (by kernel_rfl) (by kernel_rfl) (fun _ _ _ h => h) (Or.inl ⟨by rfl, ?_⟩) (by assumption) ?_
              rotate_left
              · intro w hSw; (try dsimp only at hSw); go_simp; try with_reducible rfl
              try simp only [put_y]
              try simp only [Act.put]
              try simp only [put_z]
              refine wpAnyH_take (i := 15) (v := ?_) rfl (by kernel_rfl) (by kernel_rfl) (by kernel_rfl) (fun _ _ _ h => h) (Or.inl ⟨by rfl, ?_⟩) (by assumption) ?_
              rotate_left
              · intro w hSw; (try dsimp only at hSw); go_simp; try with_reducible rfl
              try simp only [put_y]
              try simp only [Act.put]
              try simp only [put_z]
              refine wpAnyH_take (i := 16) (v := ?_) rfl (by kernel_rfl) (by kernel_rfl) (by kernel_rfl) (fun _ _ _ h => h) (Or.inl ⟨by rfl, ?_⟩) (by assumption) ?_
              rotate_left
              · intro w hSw; (try dsimp only at hSw); go_simp; try with_reducible rfl
              try simp only [put_y]
              try simp only [Act.put]
              try simp only [put_z]
              refine wpAnyH_take (i := 17) (v := ?_) rfl (by kernel_rfl) (by kernel_rfl) (by kernel_rfl) (fun _ _ _ h => h) (Or.inl ⟨by rfl, ?_⟩) (by assumption) ?_
              rotate_left
              · intro w hSw; (try dsimp only at hSw); go_simp; try with_reducible rfl
              try simp only [put_y]
              try simp only [Act.put]
              try simp only [put_z]
              refine wpAnyH_ready (rs := [18]) (by kernel_rfl) (by simp) ?_
              refine AllReadyH.cons rfl (fun K hK => ?_) AllReadyH.nil
              go_simp
              refine hK.out _ _ ?_ (fun hHeld => ?_)
              · exact HSS.out _ ((uD.alloc _).mono (fun _ _ f => f.elim))
              clear hK K
              try simp only [put_y]
              try simp only [Act.put]
              try simp only [put_z]
              refine wpAnyH_ready (rs := [19]) (by kernel_rfl) (by simp) ?_
              refine AllReadyH.cons rfl (fun K hK => ?_) AllReadyH.nil
              refine step_app rfl rfl T_ints' rfl (hoD.alloc _) rfl (Sl.new _ _ _) rfl (by simp [Value.oneCell']) (by simp only [maxLen]; omega) (by omega) ?_
              intro X4 c4 w4 ho4 hu4 hat4
              have u4 : Upd (At X) wx w4 := ((uD.alloc _).mono (T := At X) (fun _ _ f => f.elim)).trans hu4 (fun _ _ h => h)
              refine hK.out _ _ ?_ (fun hHeld => ?_)
              · exact HSS.out _ u4
              clear hK K
              try simp only [put_y]
              try simp only [Act.put]
              try simp only [put_z]
              refine wpAnyH_take (i := 20) (v := ?_) rfl (by kernel_rfl) (by kernel_rfl) (by kernel_rfl) (fun _ _ _ h => h) (Or.inl ⟨by rfl, ?_⟩) (by assumption) ?_
              rotate_left
              · intro w hSw; (try dsimp only at hSw); go_simp; try with_reducible rfl
              try simp only [put_y]
              try simp only [Act.put]
              try simp only [put_z]
              refine wpAnyH_done (by kernel_rfl) ?_ _
              rw [HZT.out] at ho4
              have hs3 := hu3.size
              have HX4 : Hid (∀ k, At X4 k → wi.heap.size ≤ k) := fun j hj => by
                rcases hat4 j hj with h | h
                · exact HX.out j h
                · rw [h]; have := uD.size; simp; omega
              have HU4 : Upd Non wi w4 := hu3.trans u4 (fun i hi h => by have := HX.out i h; omega)
              clear ho hoD hu4 hat4 u4
              go_wp2_with fail
              go_roundg (q - (x + 1))
              case measure => rw [Hg3.out]; omega
              case rel => exact ⟨x + 1, c4, X4, rfl, by omega, rfl, by go_num, ho4, HX4, HU4⟩
            · obtain rfl : q = x := by omega
              have hzl : (zadd ye ze).length = q := zadd_len HML.out HML2.out
              rw [List.take_of_length_le (by omega)] at ho
              have hpl := ho.le
              have hzi : Ints wx (fun j => w.heap.size ≤ j) X (zadd ye ze) := ho.ints.mono (fun j _ h => by have := HX.out j h; have := huj.size; omega)
              have HZL := Lib.hid hzl
              have uj := huj.then_non hu3
              obtain ⟨wD, HwD⟩ := nm wx.drew
              have uD : Upd Non wx wD := by rw [← HwD.out]; exact Upd.refl.drew
              have C1 := Lib.hid (addTerm_c wD (fun j => w.heap.size ≤ j) R2 X cb2 pc O2 (zadd ye ze) (u64m (yc * zc)) ((HO2.out.2.2.1.upd hu3 (fun _ _ _ f => f)).upd uD (fun _ _ _ f => f)) (hzi.upd uD (fun _ _ _ f => f)) (fun m hm => by rw [HO2.out.2.2.2.1 m hm, hzl]) (by rw [hzl]; exact hpl) (by have := HO2.out.2.2.2.2; have := HNK.out; rw [HO2.out.2.1]; omega) (by rw [hzl]; omega))
              rw [hzl, HO2.out.2.1] at C1
              have hx1 : IntKind.u64.wrap (yc * zc) = u64m (yc * zc) := IntKind.wrap_u64 _
              have HLT := addT_len O2 (zadd ye ze, u64m (yc * zc))
              rw [HO2.out.2.1] at HLT
              obtain ⟨v, Hv⟩ := nm (u64m (yc * zc))
              rw [Hv.out] at hx1 C1 HLT
              have HO4 : Hid (mulRow O (ye, yc) (Lb.take (j + 1)) = addT O2 (zadd ye ze, v)) := by show _ = _; rw [HRS.out, ← HO2.out.1, ← Hv.out]
              have HQ2 : Hid (LenQ q (addT O2 (zadd ye ze, v))) := LenQ.addT HO2.out.2.2.2.1 hzl
              have hbd := HO2.out.2.2.2.2
              obtain ⟨O3, HO3⟩ := nm (addT O2 (zadd ye ze, v))
              rw [HO3.out] at C1 HLT HO4 HQ2
              have SS : ∀ w', Upd Non wx w' → w'.cell? ⟨b, o + k * 2 + 1, none⟩ = some (.int .u64 yc) ∧ w'.cell? ⟨b2, o2 + j * 2 + 1, none⟩ = some (.int .u64 zc) := fun w' u =>
                ⟨cell_upd h1 ((hu2.then_non hu3).then_non u) (fun f => f), cell_upd g1 (hu3.then_non u) (fun f => f)⟩
              have HSS := Lib.hid SS
              have h0x := cell_upd h0i hu3 (fun f => f)
              clear SS hzi ho hzl HRS HO2
              go_wp2_with fail
              refine wp_region_held_drew (S := fun w' => w'.cell? ⟨b, o + k * 2 + 1, none⟩ = some (.int .u64 yc) ∧ w'.cell? ⟨b2, o2 + j * 2 + 1, none⟩ = some (.int .u64 zc)) (by kernel_rfl) (by rw [HwD.out]; exact HSS.out _ uD) (fun hHeld => ?_)
              rw [HwD.out] at hHeld ⊢
              refine wpAnyH_take (i := 0) (v := ?_) rfl (by kernel_rfl) (by kernel_rfl) (by kernel_rfl) (fun _ _ _ h => h) (Or.inl ⟨by rfl, ?_⟩) (by assumption) ?_
              rotate_left
              · intro w hSw; (try dsimp only at hSw); go_simp; try with_reducible rfl
              try simp only [put_y]
              try simp only [Act.put]
              try simp only [put_z]
              refine wpAnyH_take (i := 1) (v := ?_) rfl (by kernel_rfl) (by kernel_rfl) (by kernel_rfl) (fun _ _ _ h => h) (Or.inl ⟨by rfl, ?_⟩) (by assumption) ?_
              rotate_left
              · intro w hSw; (try dsimp only at hSw); go_simp; try with_reducible rfl
              try simp only [put_y]
              try simp only [Act.put]
              try simp only [put_z]
              refine wpAnyH_take (i := 2) (v := ?_) rfl (by kernel_rfl) (by kernel_rfl) (by kernel_rfl) (fun _ _ _ h => h) (Or.inl ⟨by rfl, ?_⟩) (by assumption) ?_
              rotate_left
              · intro w hSw; (try dsimp only at hSw); go_simp; try with_reducible rfl
              try simp only [put_y]
              try simp only [Act.put]
              try simp only [put_z]
              refine wpAnyH_take (i := 3) (v := ?_) rfl (by kernel_rfl) (by kernel_rfl) (by kernel_rfl) (fun _ _ _ h => h) (Or.inl ⟨by rfl, ?_⟩) (by assumption) ?_
              rotate_left
              · intro w hSw; (try dsimp only at hSw); go_simp; try with_reducible rfl
              try simp only [put_y]
              try simp only [Act.put]
              try simp only [put_z]
              refine wpAnyH_take (i := 4) (v := ?_) rfl (by kernel_rfl) (by kernel_rfl) (by kernel_rfl) (fun _ _ _ h => h) (Or.inl ⟨by rfl, ?_⟩) (by assumption) ?_
              rotate_left
              · intro w hSw; (try dsimp only at hSw); go_simp; try with_reducible rfl
              try simp only [put_y]
              try simp only [Act.put]
              try simp only [put_z]
              refine wpAnyH_take (i := 5) (v := ?_) rfl (by kernel_rfl) (by kernel_rfl) (by kernel_rfl) (fun _ _ _ h => h) (Or.inl ⟨by rfl, ?_⟩) (by assumption) ?_
              rotate_left
              · intro w hSw; (try dsimp only at hSw); go_simp; try with_reducible rfl
              try simp only [put_y]
              try simp only [Act.put]
              try simp only [put_z]
              refine wpAnyH_take (i := 6) (v := ?_) rfl (by kernel_rfl) (by kernel_rfl) (by kernel_rfl) (fun _ _ _ h => h) (Or.inl ⟨by rfl, ?_⟩) (by assumption) ?_
              rotate_left
              · intro w hSw; (try dsimp only at hSw); go_simp; try with_reducible rfl
              try simp only [put_y]
              try simp only [Act.put]
              try simp only [put_z]
              refine wpAnyH_take (i := 7) (v := ?_) rfl (by kernel_rfl) (by kernel_rfl) (by kernel_rfl) (fun _ _ _ h => h) (Or.inl ⟨by rfl, ?_⟩) (by assumption) ?_
              rotate_left
              · intro w hSw; (try dsimp only at hSw); go_simp; try with_reducible rfl
              try simp only [put_y]
              try simp only [Act.put]
              try simp only [put_z]
              refine wpAnyH_take (i := 8) (v := ?_) rfl (by kernel_rfl) (by kernel_rfl) (by kernel_rfl) (fun _ _ _ h => h) (Or.inl ⟨by rfl, ?_⟩) (by assumption) ?_
              rotate_left
              · intro w hSw; (try dsimp only at hSw); go_simp; try with_reducible rfl
              try simp only [put_y]
              try simp only [Act.put]
              try simp only [put_z]
              refine wpAnyH_take (i := 9) (v := ?_) rfl (by kernel_rfl) (by kernel_rfl) (by kernel_rfl) (fun _ _ _ h => h) (Or.inl ⟨by rfl, ?_⟩) (by assumption) ?_
              rotate_left
              · intro w hSw; (try dsimp only at hSw); go_simp; try with_reducible rfl
              try simp only [put_y]
              try simp only [Act.put]
              try simp only [put_z]
              refine wpAnyH_take (i := 10) (v := ?_) rfl (by kernel_rfl) (by kernel_rfl) (by kernel_rfl) (fun _ _ _ h => h) (Or.inl ⟨by rfl, ?_⟩) (by assumption) ?_
              rotate_left
              · intro w hSw; (try dsimp only at hSw); go_simp; try with_reducible rfl
              try simp only [put_y]
              try simp only [Act.put]
              try simp only [put_z]
              refine wpAnyH_take (i := 11) (v := ?_) rfl (by kernel_rfl) (by kernel_rfl) (by kernel_rfl) (fun _ _ _ h => h) (Or.inl ⟨by rfl, ?_⟩) (by assumption) ?_
              rotate_left
              · intro w hSw; (try dsimp only at hSw); go_simp; try with_reducible rfl
              try simp only [put_y]
              try simp only [Act.put]
              try simp only [put_z]
              refine wpAnyH_take (i := 12) (v := ?_) rfl (by kernel_rfl) (by kernel_rfl) (by kernel_rfl) (fun _ _ _ h => h) (Or.inl ⟨by rfl, ?_⟩) (by assumption) ?_
              rotate_left
              · intro w hSw; (try dsimp only at hSw); go_simp; try with_reducible rfl
              try simp only [put_y]
              try simp only [Act.put]
              try simp only [put_z]
              refine wpAnyH_take (i := 13) (v := ?_) rfl (by kernel_rfl) (by kernel_rfl) (by kernel_rfl) (fun _ _ _ h => h) (Or.inl ⟨by rfl, ?_⟩) (by assumption) ?_
              rotate_left
              · intro w hSw; (try dsimp only at hSw); go_simp; try with_reducible rfl
              try simp only [put_y]
              try simp only [Act.put]
              try simp only [put_z]
              refine wpAnyH_ready (rs := [14]) (by kernel_rfl) (by simp) ?_
              refine AllReadyH.cons rfl (fun K hK => ?_) AllReadyH.nil
              go_simp
              refine C1.out.mono ?_
              rintro e w1 ⟨R1, c1, rfl, hm1, hc1, hu1⟩
              obtain ⟨n1, Hn1⟩ := nm O3.length
              rw [Hn1.out] at hc1 HLT ⊢
              have u1 := uD.then_non hu1
              go_wp2_with fail
              refine hK.out _ _ ?_ (fun hHeld => ?_)
              · exact HSS.out _ u1
              clear hK K
              try simp only [put_y]
              try simp only [Act.put]
              try simp only [put_z]
              refine wpAnyH_take (i := 15) (v := ?_) rfl (by kernel_rfl) (by kernel_rfl) (by kernel_rfl) (fun _ _ _ h => h) (Or.inl ⟨by rfl, ?_⟩) (by assumption) ?_
              rotate_left
              · intro w hSw; (try dsimp only at hSw); go_simp; try with_reducible rfl
              try simp only [put_y]
              try simp only [Act.put]
              try simp only [put_z]
              refine wpAnyH_done (by kernel_rfl) ?_ _
              have HM1 : Hid (O3 = mulRow O (ye, yc) (Lb.take (j + 1)) ∧ O3.length = n1 ∧ MonsV w1 (fun j => w.heap.size ≤ j) R1 O3 ∧ LenQ q O3 ∧ n1 ≤ nb + (j + 1)) := ⟨HO4.out.symm, Hn1.out, hm1.mono (fun j _ h => h.elim id (fun h => by have := uj.size; have := uD.size; omega)), HQ2.out, by omega⟩
              clear hm1 HO4 HQ2
              go_wp2_with fail
              go_roundg (m - (j + 1))
              case measure => rw [Hg2.out]; omega
              case rel => exact ⟨j + 1, n1, c1, R1, O3, rfl, by omega, rfl, by go_num, HM1, hc1, (hu2.then_non hu3).then_non u1⟩
        · obtain rfl : m = j := by omega
          have HT : Hid (Lb.take m = Lb) := List.take_of_length_le (by rw [Hm.out]; exact Nat.le_refl _)
          rw [HT.out] at HO2
          have HO5 : Hid (O2 = prodT (La.take (k + 1)) Lb ∧ O2.length = nb2 ∧ MonsV wi (fun j => w.heap.size ≤ j) R2 O2 ∧ LenQ q O2 ∧ nb2 ≤ (k + 1) * m) := by
            obtain ⟨e1, e2, e3, e4, e5⟩ := HO2.out
            refine ⟨?_, e2, e3, e4, ?_⟩
            · rw [HPS.out, ← HO.out.1]; exact e1
            · rw [Nat.succ_mul]; omega
          go_wp2_with fail
          go_roundg (n - (k + 1))
          case measure => rw [Hg.out]; omega
          case rel => exact ⟨k + 1, nb2, cb2, R2, O2, rfl, by omega, rfl, by go_num, HO5, hnb2, hu.then_non hu2⟩
    · obtain rfl : n = k := by omega
      have HT : Hid (La.take n = La) := List.take_of_length_le (by rw [Hn.out]; exact Nat.le_refl _)
      rw [HT.out] at HO
      go_wp2_with fail
      go_ret
      obtain ⟨e1, e2, e3, _, _⟩ := HO.out
      rw [← e1, e2]
      exact ⟨R, cb, rfl, e3, hnb, hu⟩

theorem zeroI : (Try.prog.info? 3).bind (·.zero) = some (.int .i64 0) := by kernel_rfl
set_option maxRecDepth 100000 in
set_option maxHeartbeats 4000000 in
theorem r18constant_c (w : World) (v : Int) (q : Nat) (hq : q ≤ 1000000) :
    Calls Try.prog 54 #[.int .u64 v, .int .i64 q] w fun e w' => ∃ R c', e = .returned (.slice R (addT [] (List.replicate q 0, v)).length c') ∧ MonsV w' (fun j => w.heap.size ≤ j) R (addT [] (List.replicate q 0, v)) ∧ (addT [] (List.replicate q 0, v)).length ≤ c' ∧ Upd Non w w' := by
  obtain ⟨W, HW⟩ := nm (w.alloc (.cells (Array.replicate q (.int .i64 0)) 3))
  have hU : Upd Non w W := by rw [← HW.out]; exact Upd.refl.alloc _
  have hi : Ints W (fun j => w.heap.size ≤ j) (some ⟨w.heap.size, 0, none⟩) (List.replicate q 0) := by
    rw [← HW.out]
    have h := Sl.of_blk (F := fun j => w.heap.size ≤ j) (Nat.le_refl _) (Blk.new w 3 (Array.replicate q (.int .i64 0))) q
    unfold Ints
    simpa using h
  have hmk := run_mk T_ints' zeroI rfl q (by omega) (by omega) w
  rw [HW.out] at hmk
  have C1 := Lib.hid (addTerm_c W (fun j => w.heap.size ≤ j) none (some ⟨w.heap.size, 0, none⟩) 0 q [] (List.replicate q 0) v .nil hi (by simp) (by simp) (by simp) (by simp; omega))
  rw [List.length_replicate, List.length_nil] at C1
  obtain ⟨L, HL⟩ := nm (addT [] (List.replicate q 0, v))
  rw [HL.out] at C1 ⊢
  go_enter Try.func54, Try.ntmps54
  go_wp2_with fail
  refine C1.out.mono ?_
  rintro e w1 ⟨R, c, rfl, hm, hc, hu⟩
  clear hi
  go_wp2_with fail
  go_ret
  exact ⟨R, c, rfl, hm.mono (fun j _ h => h.elim id (fun h => by have := hU.size; omega)), hc, hU.then_non hu⟩
end Go.Proofs.Ytnefhokojbkppaa
