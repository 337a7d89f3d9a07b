/-
  What rules.tokenize does: it hands back the tokens.
-/
import Derived.Test.YtblkgjdhaibhgaaTokC
namespace Go.Proofs.Ytblkgjdhaibhgaa
open Go.RowKit

/-- The token list that the call itself makes. -/
def TokO (w : World) (A : Option Addr) (c : Nat) (L : List Tok) : Prop := Own w 60 3 A L.length c (tcells L)
set_option maxRecDepth 100000 in
set_option maxHeartbeats 4000000 in
theorem rTokenize_c (s : ByteArray) (w : World) (hs : s.size ≤ 100000000000) :
    Calls Try.prog 16 #[.string s] w fun e w' => ∃ (A : Option Addr) (c : Nat), e = .returned (.slice A (toksF (kx s)).length c) ∧ TokO w' A c (toksF (kx s)) ∧ (∀ k, At A k → w.heap.size ≤ k) ∧ (toksF (kx s)).length ≤ s.size + 1 ∧ Upd Non w w' := by
  obtain ⟨n, Hn⟩ := nm s.size
  have hn := Hn.out
  have hkn : (kx s).length = n := by rw [kx_len, hn]
  rw [hn] at hs
  have HKN := Lib.hid hkn
  clear hkn
  go_enter Try.func16, Try.ntmps16
  go_wp2_with fail
  go_loopg [3, 4] (n + 1) (fun g l p wr => ∃ (k : Nat) (A : Option Addr) (c : Nat) (L : List Tok), Hid (g = n + 1 - k) ∧ k ≤ n ∧ p = .int .i64 k ∧ l = .slice A L.length c ∧ TokO wr A c L ∧ (∀ j, At A j → w.heap.size ≤ j) ∧ Hid (L ++ tokL (n - k + 1) ((kx s).drop k) k = toksF (kx s)) ∧ L.length ≤ k ∧ Upd Non w wr)
  case atStart =>
    refine ⟨0, none, 0, [], rfl, by omega, rfl, rfl, Own.none_, fun j h => (At.none_ h).elim, ?_, by simp, Upd.refl⟩
    show _ = _
    rw [List.nil_append, List.drop_zero]
    unfold toksF
    rw [HKN.out]
    rfl
  case round =>
    obtain ⟨k, A, c, L, Hg, hk, rfl, rfl, ho, hA, HT, hLk, hu⟩ := hrel
    obtain ⟨W, rfl⟩ : ∃ x : World, x = wr := ⟨_, rfl⟩
    by_cases hlt : k < n
    · have ti : decide ((k : Int) < (n : Int)) = true := decide_eq_true (by omega)
      have hkl : k < (kx s).length := by rw [HKN.out]; exact hlt
      have i1 := fun W => run_at_str Hn.out hlt W
      have hdr := Lib.hid (drop_cons hkl)
      obtain ⟨ch, HC⟩ := nm ((kx s).getD k 0)
      rw [HC.out] at i1 hdr
      obtain ⟨x, Hx⟩ := nm ch.toNat
      rw [Hx.out] at i1
      have HSP : Hid (isSp ch = decide (x = 32 ∨ x = 9 ∨ x = 10 ∨ x = 13)) := by show _ = _; rw [← Hx.out]; rfl
      obtain ⟨R, HR⟩ := nm (isSp ch)
      rw [HR.out] at HSP
      go_upto_region 10 with fail
      go_cut [56] (fun s wx => s = .bool R ∧ wx = W)
      case first =>
        by_cases h1 : x = 32
        · have f1 : ((x : Int) == 32) = true := by rw [h1]; rfl
          obtain rfl : R = true := by rw [HSP.out]; exact decide_eq_true (by omega)
          clear h1
          go_wp2_with fail
          go_meet
          case rel => exact ⟨rfl, rfl⟩
        · have f1 : ((x : Int) == 32) = false := by simp; omega
          by_cases h2 : x = 9
          · have f2 : ((x : Int) == 9) = true := by rw [h2]; rfl
            obtain rfl : R = true := by rw [HSP.out]; exact decide_eq_true (by omega)
            clear h1 h2
            go_wp2_with fail
            go_meet
            case rel => exact ⟨rfl, rfl⟩
          · have f2 : ((x : Int) == 9) = false := by simp; omega
            by_cases h3 : x = 10
            · have f3 : ((x : Int) == 10) = true := by rw [h3]; rfl
              obtain rfl : R = true := by rw [HSP.out]; exact decide_eq_true (by omega)
              clear h1 h2 h3
              go_wp2_with fail
              go_meet
              case rel => exact ⟨rfl, rfl⟩
            · have f3 : ((x : Int) == 10) = false := by simp; omega
              obtain ⟨b, f4⟩ : ∃ b, ((x : Int) == 13) = b := ⟨_, rfl⟩
              obtain rfl : R = b := by
                rw [HSP.out, ← f4, Bool.eq_iff_iff]
                simp only [beq_iff_eq, decide_eq_true_eq]
                omega
              clear h1 h2 h3
              go_wp2_with fail
              go_meet
              case rel => exact ⟨rfl, rfl⟩
      case rest =>
        obtain ⟨rfl, rfl⟩ := hcut
        cases R with
        | true =>
          have HT2 : Hid (L ++ tokL (n - (k + 1) + 1) ((kx s).drop (k + 1)) (k + 1) = toksF (kx s)) := by
            show _ = _
            rw [← HT.out, tok_sp HKN.out hlt (by rw [HC.out]; exact HR.out)]
          clear hdr HT HSP
          go_wp2_with fail
          go_roundg (n + 1 - (k + 1))
          case measure => rw [Hg.out]; omega
          case rel => exact ⟨k + 1, A, c, L, rfl, by omega, by go_num, rfl, ho, hA, HT2, by omega, hu⟩
        | false =>
          have h1 : isSp ((kx s).getD k 0) = false := by rw [HC.out]; exact HR.out
          have H1 := Lib.hid h1
          clear h1
          have C1 := Lib.hid (rIsComment_c s k wc (by omega))
          obtain ⟨Q, HQ⟩ := nm (isCm ((kx s).drop k))
          rw [HQ.out] at C1
          clear HSP hdr HR
          go_wp2_with fail
          refine C1.out.mono ?_
          rintro e w1 ⟨rfl, rfl⟩
          cases Q with
          | true =>
            clear C1
            go_wp2_with fail
            go_loopg [4] (n + 1 - k) (fun g p wr => ∃ j : Nat, Hid (g = n + 1 - j) ∧ k ≤ j ∧ j ≤ n ∧ p = .int .i64 j ∧ Hid (clen ((kx s).drop k) = (j - k) + clen ((kx s).drop j)) ∧ wr = w1)
            case atStart => exact ⟨k, rfl, Nat.le_refl _, hk, rfl, by show _ = _; omega, rfl⟩
            case round =>
              obtain ⟨j, Hj, hkj, hj, rfl, HL, rfl⟩ := hrel
              by_cases hlj : j < n
              · have tj : decide ((j : Int) < (n : Int)) = true := decide_eq_true (by omega)
                have hjl : j < (kx s).length := by rw [HKN.out]; exact hlj
                have i2 := fun W => run_at_str Hn.out hlj W
                have HS := Lib.hid (clen_step hjl)
                generalize ((kx s).getD j 0).toNat = y at i2 HS
                by_cases hy : y = 10
                · have fy : ((y : Int) != 10) = false := by rw [hy]; rfl
                  have HE0 : Hid (clen ((kx s).drop j) = 0) := by show _ = _; rw [HS.out, if_pos hy]
                  clear hy HS
                  have HE : Hid (clen ((kx s).drop j) = 0) := HE0
                  have hcl : clen ((kx s).drop k) = j - k := by rw [HL.out, HE.out]; rfl
                  obtain ⟨hkj2, htk⟩ := tok_cm HKN.out hlt H1.out HQ.out hkj hcl
                  have HT2 : Hid (L ++ tokL (n - j + 1) ((kx s).drop j) j = toksF (kx s)) := by show _ = _; rw [← HT.out, htk]
                  clear HE HE0 hcl htk HT HL
                  go_wp2_with fail
                  go_roundg (n + 1 - j)
                  case measure => rw [Hg.out]; omega
                  case rel => exact ⟨j, A, c, L, rfl, hj, rfl, rfl, ho, hA, HT2, by omega, hu⟩
                · have fy : ((y : Int) != 10) = true := by simp; omega
                  have HL2 : Hid (clen ((kx s).drop k) = (j + 1 - k) + clen ((kx s).drop (j + 1))) := by show _ = _; rw [HL.out, HS.out, if_neg hy]; omega
                  clear hy HS HL
                  go_wp2_with fail
                  go_roundg (n + 1 - (j + 1))
                  case measure => rw [Hj.out]; omega
                  case rel => exact ⟨j + 1, rfl, by omega, by omega, by go_num, HL2, rfl⟩
              · have HJN : Hid (j = n) := by show _ = _; omega
                have tj : decide ((j : Int) < (n : Int)) = false := decide_eq_false (by omega)
                have HE0 : Hid (clen ((kx s).drop j) = 0) := by rw [HJN.out]; exact clen_end HKN.out
                have HE : Hid (clen ((kx s).drop j) = 0) := HE0
                have hcl : clen ((kx s).drop k) = j - k := by rw [HL.out, HE.out]; rfl
                obtain ⟨hkj2, htk⟩ := tok_cm HKN.out hlt H1.out HQ.out hkj hcl
                have HT2 : Hid (L ++ tokL (n - j + 1) ((kx s).drop j) j = toksF (kx s)) := by show _ = _; rw [← HT.out, htk]
                clear HE HE0 hcl htk HT HL
                go_wp2_with fail
                go_roundg (n + 1 - j)
                case measure => rw [Hg.out]; omega
                case rel => exact ⟨j, A, c, L, rfl, hj, rfl, rfl, ho, hA, HT2, by omega, hu⟩
          | false =>
            clear C1
            obtain ⟨B, HB⟩ := nm (isPn ch || decide (x < 33) || decide (126 < x))
            have CP := Lib.hid (fun W => rIsPunct_c ch W)
            obtain ⟨pn, Hpn⟩ := nm (isPn ch)
            rw [Hpn.out] at HB CP
            rw [Hx.out] at CP
            have h3 : (isPn ((kx s).getD k 0) || decide (((kx s).getD k 0).toNat < 33) || decide (126 < ((kx s).getD k 0).toNat)) = B := by rw [HC.out, Hx.out, Hpn.out]; exact HB.out
            have H3 := Lib.hid h3
            clear h3
            go_upto_region 15 with fail
            go_cut [89] (fun s wx => s = .bool B ∧ wx = w1)
            case first =>
              have CP1 := Lib.hid (CP.out w1)
              clear CP
              cases pn with
              | true =>
                obtain rfl : B = true := by rw [← HB.out]; rfl
                go_wp2_with fail
                refine CP1.out.mono ?_
                rintro e w2 ⟨rfl, rfl⟩
                go_wp2_with fail
                go_meet
                case rel => exact ⟨rfl, rfl⟩
              | false =>
                by_cases hx1 : x < 33
                · have fx : decide ((x : Int) < 33) = true := decide_eq_true (by omega)
                  obtain rfl : B = true := by rw [← HB.out]; simp [hx1]
                  go_wp2_with fail
                  refine CP1.out.mono ?_
                  rintro e w2 ⟨rfl, rfl⟩
                  go_wp2_with fail
                  go_meet
                  case rel => exact ⟨rfl, rfl⟩
                · have fx : decide ((x : Int) < 33) = false := decide_eq_false (by omega)
                  obtain ⟨z, fz⟩ : ∃ z, decide ((126 : Int) < (x : Int)) = z := ⟨_, rfl⟩
                  obtain rfl : B = z := by
                    rw [← HB.out, ← fz]
                    simp only [hx1, decide_false, Bool.or_false, Bool.false_or]
                    rw [Bool.eq_iff_iff, decide_eq_true_eq, decide_eq_true_eq]
                    omega
                  clear hx1
                  go_wp2_with fail
                  refine CP1.out.mono ?_
                  rintro e w2 ⟨rfl, rfl⟩
                  go_wp2_with fail
                  go_meet
                  case rel => exact ⟨rfl, rfl⟩
            case rest =>
              obtain ⟨rfl, hwc⟩ := hcut
              subst hwc
              obtain ⟨m, Hm⟩ := nm L.length
              have ho1 : Own wc 60 3 A m c (tcells L) := by rw [← Hm.out]; exact ho
              have hwA : w.heap.size ≤ wc.heap.size := hu.size
              rw [Hm.out] at hLk ⊢
              have HT := HT
              have hu := hu
              clear ho
              cases B with
              | true =>
                have hsl := fun W => run_sub_str Hn.out (show k ≤ k + 1 by omega) (show k + 1 ≤ n by omega) W
                rw [show ((k + 1 : Nat) : Int) = (k : Int) + 1 by omega, show ((kx s).drop k).take (k + 1 - k) = [ch] by rw [drop_cons hkl, HC.out, show k + 1 - k = 1 by omega]; rfl] at hsl
                have HT2 : Hid ((L ++ [(⟨[ch], k, !pn⟩ : Tok)]) ++ tokL (n - (k + 1) + 1) ((kx s).drop (k + 1)) (k + 1) = toksF (kx s)) := by
                  show _ = _
                  rw [← HT.out, tok_pn HKN.out hlt H1.out HQ.out H3.out, HC.out, Hpn.out, List.append_assoc]; rfl
                have hw1 : IntKind.i64.wrap ((k : Int) + 1) = (k : Int) + 1 := i64w_of (by unfold I64; omega)
                go_upto_region 16 with fail
                obtain ⟨wD, HwD⟩ := nm wc.drew
                have uD : Upd Non wc wD := by rw [← HwD.out]; exact Upd.refl.drew
                have hoD := ho1.upd uD (fun _ _ f => f)
                have hsD := uD.size
                refine wp_region_held_drew (S := fun _ => True) (by kernel_rfl) trivial (fun hHeld => ?_)
                rw [HwD.out]
                refine wpAnyH_take (i := 0) (v := ?_) rfl (by kernel_rfl) (by kernel_rfl) (by kernel_rfl) (fun _ _ _ h => h) (Or.inl ⟨by rfl, ?_⟩) (by assumption) ?_
                rotate_left
                · intro w hSw; (try dsimp only at hSw); go_simp; try with_reducible rfl
                try simp only [put_y]
                try simp only [Act.put]
                try simp only [put_z]
                refine wpAnyH_take (i := 1) (v := ?_) rfl (by kernel_rfl) (by kernel_rfl) (by kernel_rfl) (fun _ _ _ h => h) (Or.inl ⟨by rfl, ?_⟩) (by assumption) ?_
                rotate_left
                · intro w hSw; (try dsimp only at hSw); go_simp; try with_reducible rfl
                try simp only [put_y]
                try simp only [Act.put]
                try simp only [put_z]
                refine wpAnyH_take (i := 2) (v := ?_) rfl (by kernel_rfl) (by kernel_rfl) (by kernel_rfl) (fun _ _ _ h => h) (Or.inl ⟨by rfl, ?_⟩) (by assumption) ?_
                rotate_left
                · intro w hSw; (try dsimp only at hSw); go_simp; try with_reducible rfl
                try simp only [put_y]
                try simp only [Act.put]
                try simp only [put_z]
                refine wpAnyH_take (i := 3) (v := ?_) rfl (by kernel_rfl) (by kernel_rfl) (by kernel_rfl) (fun _ _ _ h => h) (Or.inl ⟨by rfl, ?_⟩) (by assumption) ?_
                rotate_left
                · intro w hSw; (try dsimp only at hSw); go_simp; try with_reducible rfl
                try simp only [put_y]
                try simp only [Act.put]
                try simp only [put_z]
                refine wpAnyH_take (i := 4) (v := ?_) rfl (by kernel_rfl) (by kernel_rfl) (by kernel_rfl) (fun _ _ _ h => h) (Or.inl ⟨by rfl, ?_⟩) (by assumption) ?_
                rotate_left
                · intro w hSw; (try dsimp only at hSw); go_simp; try with_reducible rfl
                try simp only [put_y]
                try simp only [Act.put]
                try simp only [put_z]
                refine wpAnyH_take (i := 5) (v := ?_) rfl (by kernel_rfl) (by kernel_rfl) (by kernel_rfl) (fun _ _ _ h => h) (Or.inl ⟨by rfl, ?_⟩) (by assumption) ?_
                rotate_left
                · intro w hSw; (try dsimp only at hSw); go_simp; try with_reducible rfl
                try simp only [put_y]
                try simp only [Act.put]
                try simp only [put_z]
                refine wpAnyH_take (i := 6) (v := ?_) rfl (by kernel_rfl) (by kernel_rfl) (by kernel_rfl) (fun _ _ _ h => h) (Or.inl ⟨by rfl, ?_⟩) (by assumption) ?_
                rotate_left
                · intro w hSw; (try dsimp only at hSw); go_simp; try with_reducible rfl
                try simp only [put_y]
                try simp only [Act.put]
                try simp only [put_z]
                refine wpAnyH_take (i := 7) (v := ?_) rfl (by kernel_rfl) (by kernel_rfl) (by kernel_rfl) (fun _ _ _ h => h) (Or.inl ⟨by rfl, ?_⟩) (by assumption) ?_
                rotate_left
                · intro w hSw; (try dsimp only at hSw); go_simp; try with_reducible rfl
                try simp only [put_y]
                try simp only [Act.put]
                try simp only [put_z]
                refine wpAnyH_takeC (i := 8) (v := ?v1) rfl (by kernel_rfl) (by kernel_rfl) (by kernel_rfl) (fun _ _ _ h => h) ⟨by rfl, ?f1, ?a1, ?r1, ?c1⟩ (by assumption) ?m1
                case r1 => intro w; go_simp; constructor <;> with_reducible rfl
                case c1 => intro W hSw; refine (CP.out W).mono ?_; rintro e w' ⟨rfl, rfl⟩; constructor <;> with_reducible rfl
                try simp only [put_y]
                try simp only [Act.put]
                try simp only [put_z]
                refine wpAnyH_take (i := 9) (v := ?_) rfl (by kernel_rfl) (by kernel_rfl) (by kernel_rfl) (fun _ _ _ h => h) (Or.inl ⟨by rfl, ?_⟩) (by assumption) ?_
                rotate_left
                · intro w hSw; (try dsimp only at hSw); go_simp; try with_reducible rfl
                try simp only [put_y]
                try simp only [Act.put]
                try simp only [put_z]
                refine wpAnyH_take (i := 10) (v := ?_) rfl (by kernel_rfl) (by kernel_rfl) (by kernel_rfl) (fun _ _ _ h => h) (Or.inl ⟨by rfl, ?_⟩) (by assumption) ?_
                rotate_left
                · intro w hSw; (try dsimp only at hSw); go_simp; try with_reducible rfl
                try simp only [put_y]
                try simp only [Act.put]
                try simp only [put_z]
                refine wpAnyH_ready (rs := [11]) (by kernel_rfl) (by simp) ?_
                refine AllReadyH.cons rfl (fun K hK => ?_) AllReadyH.nil
                go_simp
                refine hK.out _ _ ?_ (fun hHeld => ?_)
                · exact trivial
                clear hK K
                try simp only [put_y]
                try simp only [Act.put]
                try simp only [put_z]
                refine wpAnyH_ready (rs := [12]) (by kernel_rfl) (by simp) ?_
                refine AllReadyH.cons rfl (fun K hK => ?_) AllReadyH.nil
                refine step_app rfl rfl T_toks rfl (hoD.alloc _) rfl (Sl.new _ _ _) rfl (by simp [Value.oneCell']) (by simp only [maxLen]; omega) (by omega) ?_
                intro A8 c8 w8 ho8 hu8 hat8
                refine hK.out _ _ ?_ (fun hHeld => ?_)
                · exact trivial
                clear hK K
                try simp only [put_y]
                try simp only [Act.put]
                try simp only [put_z]
                refine wpAnyH_take (i := 13) (v := ?_) rfl (by kernel_rfl) (by kernel_rfl) (by kernel_rfl) (fun _ _ _ h => h) (Or.inl ⟨by rfl, ?_⟩) (by assumption) ?_
                rotate_left
                · intro w hSw; (try dsimp only at hSw); go_simp; try with_reducible rfl
                try simp only [put_y]
                try simp only [Act.put]
                try simp only [put_z]
                refine wpAnyH_done (by kernel_rfl) ?_ _
                clear hHeld CP hsl i1
                have e8 : Own w8 60 3 A8 (L ++ [(⟨[ch], k, !pn⟩ : Tok)]).length c8 (tcells (L ++ [(⟨[ch], k, !pn⟩ : Tok)])) := by
                  rw [tcells_snoc, List.length_append, Hm.out]; exact ho8
                have hU8 : Upd Non w w8 := (hu.then_non (uD.alloc _)).trans hu8 (fun i hi h => by have := hA i h; omega)
                have HO8 := Lib.hid e8
                have HA8 : Hid (∀ j, At A8 j → w.heap.size ≤ j) := fun j h => by
                  rcases hat8 j h with h | h
                  · exact hA j h
                  · rw [h]; simp; omega
                clear ho8 e8 hu8 hat8 ho1 hoD
                go_wp2_with fail
                go_roundg (n + 1 - (k + 1))
                case measure => rw [Hg.out]; omega
                case rel => exact ⟨k + 1, A8, c8, L ++ [(⟨[ch], k, !pn⟩ : Tok)], rfl, by omega, by go_num, by rw [List.length_append, Hm.out]; rfl, HO8.out, HA8.out, HT2, by rw [List.length_append, Hm.out, List.length_singleton]; omega, hU8⟩
              | false =>
                clear CP i1 hwA
                go_wp2_with fail
                go_loopg [6] (n + 1 - k) (fun g p wr => ∃ j : Nat, Hid (g = n + 1 - j) ∧ k ≤ j ∧ j ≤ n ∧ p = .int .i64 j ∧ Hid (wlen ((kx s).drop k) = (j - k) + wlen ((kx s).drop j)) ∧ wr = wc)
                case atStart => exact ⟨k, rfl, Nat.le_refl _, hk, rfl, by show _ = _; omega, rfl⟩
                case round =>
                  obtain ⟨j, Hj, hkj, hj, rfl, HL, hwr⟩ := hrel
                  subst hwr
                  obtain ⟨D, HD⟩ := nm (decide (j < n) && (wordCh ((kx s).getD j 0) && !isCm ((kx s).drop j)))
                  go_upto_region 6 with fail
                  go_cut [43] (fun s wx => s = .bool D ∧ wx = wr)
                  case first =>
                    clear ho1 hA HT H1 H3 HQ hu HC Hx
                    by_cases hlj : j < n
                    · have tj : decide ((j : Int) < (n : Int)) = true := decide_eq_true (by omega)
                      have i2 := fun W => run_at_str Hn.out hlj W
                      have C2 := Lib.hid (rIsComment_c s j wr (by omega))
                      obtain ⟨q, Hq⟩ := nm (isCm ((kx s).drop j))
                      rw [Hq.out] at C2 HD
                      generalize (kx s).getD j 0 = cj at i2 HD
                      have CP2 := Lib.hid (rIsPunct_c cj wr)
                      have HW : Hid (wordCh cj = (decide (33 ≤ cj.toNat ∧ cj.toNat ≤ 126) && !isPn cj)) := rfl
                      obtain ⟨pj, Hpj⟩ := nm (isPn cj)
                      rw [Hpj.out] at CP2 HW
                      rw [HW.out] at HD
                      clear HW Hpj
                      generalize cj.toNat = y at i2 HD CP2
                      by_cases hy1 : 33 ≤ y
                      · have fy1 : decide ((33 : Int) ≤ (y : Int)) = true := decide_eq_true (by omega)
                        by_cases hy2 : y ≤ 126
                        · have fy2 : decide ((y : Int) ≤ 126) = true := decide_eq_true (by omega)
                          obtain rfl : D = (!pj && !q) := by rw [← HD.out]; simp [hlj, hy1, hy2]
                          clear HD
                          cases pj with
                          | true =>
                            go_wp2_with fail
                            refine CP2.out.mono ?_
                            rintro e w3 ⟨rfl, rfl⟩
                            go_wp2_with fail
                            go_meet
                            case rel => exact ⟨rfl, rfl⟩
                          | false =>
                            cases q with
                            | true =>
                              go_wp2_with fail
                              refine CP2.out.mono ?_
                              rintro e w3 ⟨rfl, rfl⟩
                              go_wp2_with fail
                              refine C2.out.mono ?_
                              rintro e w4 ⟨rfl, rfl⟩
                              go_wp2_with fail
                              go_meet
                              case rel => exact ⟨rfl, rfl⟩
                            | false =>
                              go_wp2_with fail
                              refine CP2.out.mono ?_
                              rintro e w3 ⟨rfl, rfl⟩
                              go_wp2_with fail
                              refine C2.out.mono ?_
                              rintro e w4 ⟨rfl, rfl⟩
                              go_wp2_with fail
                              go_meet
                              case rel => exact ⟨rfl, rfl⟩
                        · have fy2 : decide ((y : Int) ≤ 126) = false := decide_eq_false (by omega)
                          obtain rfl : D = false := by rw [← HD.out]; simp [hy2]
                          clear HD
                          go_wp2_with fail
                          go_meet
                          case rel => exact ⟨rfl, rfl⟩
                      · have fy1 : decide ((33 : Int) ≤ (y : Int)) = false := decide_eq_false (by omega)
                        obtain rfl : D = false := by rw [← HD.out]; simp [hy1]
                        clear HD
                        go_wp2_with fail
                        go_meet
                        case rel => exact ⟨rfl, rfl⟩
                    · have tj : decide ((j : Int) < (n : Int)) = false := decide_eq_false (by omega)
                      obtain rfl : D = false := by rw [← HD.out]; simp [hlj]
                      clear HD
                      go_wp2_with fail
                      go_meet
                      case rel => exact ⟨rfl, rfl⟩
                  case rest =>
                    obtain ⟨rfl, hwc⟩ := hcut
                    subst hwc
                    cases D with
                    | true =>
                      have hd := HD.out
                      simp only [Bool.and_eq_true, decide_eq_true_eq] at hd
                      have HL2 : Hid (wlen ((kx s).drop k) = (j + 1 - k) + wlen ((kx s).drop (j + 1))) := by
                        show _ = _
                        rw [HL.out, wlen_step (by rw [HKN.out]; exact hd.1), if_pos (by simpa using hd.2)]
                        omega
                      have hj2 := hd.1
                      clear hd HD HL
                      go_wp2_with fail
                      go_roundg (n + 1 - (j + 1))
                      case measure => rw [Hj.out]; omega
                      case rel => exact ⟨j + 1, rfl, by omega, by omega, by go_num, HL2, rfl⟩
                    | false =>
                      have hcl : wlen ((kx s).drop k) = j - k := by
                        rw [HL.out]
                        by_cases hjn : j < n
                        · have hd := HD.out
                          rw [decide_eq_true hjn, Bool.true_and] at hd
                          rw [wlen_step (by rw [HKN.out]; exact hjn), hd]
                          simp
                        · rw [show j = n by omega, wlen_end HKN.out]; rfl
                      obtain ⟨hkj2, htk⟩ := tok_wd HKN.out hlt H1.out HQ.out H3.out hkj hcl
                      have hsl := fun W => run_sub_str Hn.out hkj hj W
                      obtain ⟨wd, Hwd⟩ := nm (((kx s).drop k).take (j - k))
                      rw [Hwd.out] at hsl htk
                      have HT2 : Hid ((L ++ [(⟨wd, k, false⟩ : Tok)]) ++ tokL (n - j + 1) ((kx s).drop j) j = toksF (kx s)) := by
                        show _ = _
                        rw [← HT.out, htk, List.append_assoc]; rfl
                      have hwA : w.heap.size ≤ wc.heap.size := hu.size
                      clear HD hcl htk HL
                      go_wp2_with (at_builtin; refine wpList_app rfl rfl T_toks rfl (ho1.alloc _) rfl (Sl.new _ _ _) rfl (by simp [Value.oneCell']) (by simp only [maxLen]; omega) (by omega) ?_; intro A8 c8 w8 ho8 hu8 hat8)
                      have e8 : Own w8 60 3 A8 (L ++ [(⟨wd, k, false⟩ : Tok)]).length c8 (tcells (L ++ [(⟨wd, k, false⟩ : Tok)])) := by
                        rw [tcells_snoc, List.length_append, Hm.out]; exact ho8
                      have hU8 : Upd Non w w8 := (hu.alloc _).trans hu8 (fun i hi h => by have := hA i h; omega)
                      have HO8 := Lib.hid e8
                      have HA8 : Hid (∀ j, At A8 j → w.heap.size ≤ j) := fun j h => by
                        rcases hat8 j h with h | h
                        · exact hA j h
                        · rw [h]; simp; omega
                      clear ho8 e8 hu8 hat8 ho1
                      go_wp2_with fail
                      go_roundg (n + 1 - j)
                      case measure => rw [Hg.out]; omega
                      case rel => exact ⟨j, A8, c8, L ++ [(⟨wd, k, false⟩ : Tok)], rfl, hj, rfl, by rw [List.length_append, Hm.out]; rfl, HO8.out, HA8.out, HT2, by rw [List.length_append, Hm.out, List.length_singleton]; omega, hU8⟩
    · obtain rfl : n = k := by omega
      have hte : L ++ [(⟨[], n, true⟩ : Tok)] = toksF (kx s) := by rw [← HT.out, tok_end HKN.out]
      have HTE := Lib.hid hte
      obtain ⟨m, Hm⟩ := nm L.length
      have ho1 : Own W 60 3 A m c (tcells L) := by rw [← Hm.out]; exact ho
      have HLM : Hid ((toksF (kx s)).length = m + 1) := by show _ = _; rw [← HTE.out, List.length_append, Hm.out]; rfl
      have hwA : w.heap.size ≤ W.heap.size := hu.size
      rw [Hm.out] at hLk ⊢
      clear ho HT hte
      go_wp2_with (at_builtin; refine wpList_app rfl rfl T_toks rfl (ho1.alloc _) rfl (Sl.new _ _ _) rfl (by simp [Value.oneCell']) (by simp only [maxLen]; omega) (by omega) ?_; intro A8 c8 w8 ho8 hu8 hat8)
      go_ret
      have hl8 := HLM.out
      refine ⟨A8, c8, by rw [hl8]; rfl, ?_, fun j h => ?_, by omega, (hu.alloc _).trans hu8 (fun i hi h => by have := hA i h; omega)⟩
      · unfold TokO
        rw [HLM.out, ← HTE.out, tcells_snoc]; exact ho8
      · rcases hat8 j h with h | h
        · exact hA j h
        · rw [h]; simp; omega
end Go.Proofs.Ytblkgjdhaibhgaa
