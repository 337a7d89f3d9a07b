/-
  Parse walked.
-/
import Derived.Test.YtblkgjdhaibhgaaParP
import Derived.Test.YtblkgjdhaibhgaaItmW
import Derived.Deep.CutBlock
namespace Go.Proofs.Ytblkgjdhaibhgaa
open Go.RowKit

set_option maxRecDepth 100000 in
set_option maxHeartbeats 4000000 in
theorem rParse_c (ax : Bs → Option Rl) (hax : ∀ s r, ax s = some r → RlSz r) (s : ByteArray)
    (HAX : Hid ((∃ i, tkF (goodT (toksF (kx s))) i = some [97, 120, 105, 111, 109]) → ∀ (q : Bs) (w : World), Calls Try.prog 10 #[.string (kstr q)] w (AxP ax q w))) (w : World) :
    Calls Try.prog 7 #[.string s] w (ParseP (parseG ax (kx s)) w) := by
  have HP : Hid (parseG ax (kx s) = if 20000 < (kx s).length then .error (6, 20000) else loopF (goodT (toksF (kx s))) (finT (toksF (kx s))) ax (kx s).length ((kx s).length + 1) ⟨0, [], []⟩ []) := rfl
  obtain ⟨R, HR⟩ := nm (parseG ax (kx s))
  rw [HR.out] at HP ⊢
  obtain ⟨n, Hn⟩ := nm s.size
  have hn := Hn.out
  have hkn : (kx s).length = n := by rw [kx_len, hn]
  rw [hkn] at HP
  have hx0 : Upd Non w (w.alloc (.cells #[.int .i64 0, .int .i64 0] 25)) := Upd.refl.alloc _
  have hb0 : Blk (w.alloc (.cells #[.int .i64 0, .int .i64 0] 25)) w.heap.size 25 #[.int .i64 0, .int .i64 0] := Blk.new _ _ _
  by_cases hbig : 20000 < n
  · have t0 : decide ((20000 : Int) < (n : Int)) = true := decide_eq_true (by omega)
    have HE : Hid (R = .error (6, 20000)) := by show _ = _; rw [HP.out, if_pos hbig]
    clear hbig hkn
    go_enter Try.func7, Try.ntmps7
    go_wp2_with fail
    refine bodyPost_ret (results_tmp_cell rfl _ _ w.heap.size 25 _ (0, 0) _ rfl (Blk.new _ _ _) Try.underlying25 rfl (by kernel_rfl)) rfl ?_
    exact ⟨Upd.refl.alloc _, .inl ⟨_, HE.out, rfl⟩⟩
  · have t0 : decide ((20000 : Int) < (n : Int)) = false := decide_eq_false (by omega)
    have HE : Hid (R = loopF (goodT (toksF (kx s))) (finT (toksF (kx s))) ax n (n + 1) ⟨0, [], []⟩ []) := by show _ = _; rw [HP.out, if_neg hbig]
    have hn2 : n ≤ 20000 := by omega
    obtain ⟨W1, HW1⟩ := nm (w.alloc (.cells #[.int .i64 0, .int .i64 0] 25))
    have CT := Lib.hid (rTokenize_c s W1 (by omega))
    have e1 := HW1.out
    rw [e1] at hx0 hb0
    have s1 : W1.heap.size = w.heap.size + 1 := by rw [← e1]; simp
    have HB1 := Lib.hid hb0
    have HU1 := Lib.hid hx0
    have hkl : (kx s).length ≤ 20000 := by omega
    obtain ⟨LT, HLT⟩ := nm (toksF (kx s))
    have HLK : Hid (LT.length ≤ n + 1 → LOk LT (goodT LT) (finT LT)) := fun q => by
      have := lok_toks hkl (by rw [HLT.out, hkn]; exact q)
      rw [HLT.out] at this
      exact this
    rw [HLT.out] at CT HE HAX
    obtain ⟨T, HT⟩ := nm (goodT LT)
    obtain ⟨fin, HF⟩ := nm (finT LT)
    rw [HT.out] at HE HAX HLK
    rw [HF.out] at HE HLK
    clear hbig hkn hx0 hb0 HP hkl
    go_enter Try.func7, Try.ntmps7
    go_wp2_with fail
    refine CT.out.mono ?_
    rintro e w2 ⟨A, c, rfl, hto, hat, hlen, hu2⟩
    rw [hn] at hlen
    have hLK := HLK.out hlen
    obtain ⟨W3, HW3⟩ := nm (w2.alloc (.cells #[.slice A LT.length c, .int .i64 0, .int .i64 0, .int .i64 0, .slice none 0 0, .slice none 0 0, .bool false] 57))
    have hp2 : w2.heap.size = w2.heap.size := rfl
    have u3 : Upd Non w2 W3 := by rw [← HW3.out]; exact Upd.refl.alloc _
    have b3 : Blk W3 w2.heap.size 57 #[.slice A LT.length c, .int .i64 0, .int .i64 0, .int .i64 0, .slice none 0 0, .slice none 0 0, .bool false] := by rw [← HW3.out]; exact Blk.new _ _ _
    have s3 : W3.heap.size = w2.heap.size + 1 := by rw [← HW3.out]; simp
    have hs2 := hu2.size
    obtain ⟨W4, HW4⟩ := nm (W3.alloc (.map #[] 0))
    have u4 : Upd Non W3 W4 := by rw [← HW4.out]; exact Upd.refl.alloc _
    have HS : Hid (PaS w W4 w2.heap.size (w2.heap.size + 1) A c LT ⟨0, 0, 0, none, 0, [], none, 0, [], false⟩ none 0 []) := by
      have hr3 : RdS W3 w2.heap.size A c LT ⟨0, 0, 0, none, 0, [], none, 0, [], false⟩ := ⟨b3, (hto.view.upd u3 (fun _ _ _ f => f)).mono (fun k hk q => Own.lt hto q), Own.le hto, Own.none_, Own.none_, fun k q => (At.none_ q).elim, fun k q => (At.none_ q).elim, fun k q => (At.none_ q).elim⟩
      refine ⟨hr3.non u4, ((HB1.out.upd hu2 (fun f => f)).upd u3 (fun f => f)).upd u4 (fun f => f), RlO.none_, ?_, fun k q => ?_, fun k q => (At.none_ q).elim, by omega, ((HU1.out.then_non hu2).then_non u3).then_non u4⟩
      · rw [nmV_nil, ← HW4.out, ← s3]; exact SMap.new W3
      · rcases q with q | q | q
        · omega
        · exact (At.none_ q).elim
        · exact (At.none_ q).elim
    have HG : Hid (Good T ⟨0, 0, 0, none, 0, [], none, 0, [], false⟩) := ⟨Nat.zero_le _, fun _ => ⟨Nat.le_refl _, Nat.le_refl _⟩⟩
    have HL : Hid (LpR T fin ax n R ⟨0, 0, 0, none, 0, [], none, 0, [], false⟩ [] (n + 1)) := ⟨fun _ => ⟨by have := hLK.lt; show T.length < n + 1 + 0; omega, Nat.zero_le _, HE.out.symm⟩, fun q => absurd rfl q⟩
    have HLT : Hid (LOk LT T fin) := hLK
    have hmm := @run_makeMap Try.prog
    clear b3 u3 u4 hs2 hu2 hat hto HW1 HB1 HU1 HE HLK e1 hLK hp2
    go_wp2_with fail
    rw [HW3.out, HW4.out]
    clear hmm
    go_loopg [5, 7, 8, 9, 43, 47, 54, 62, 71] (n + 1) (fun g o _ _ _ _ _ _ _ _ wr => ∃ (fu : Nat) (y : St) (OA : Option Addr) (oc : Nat) (Q : List Rl), Hid (g = fu) ∧ o = .slice OA Q.length oc ∧ Hid (PaS w wr w2.heap.size (w2.heap.size + 1) A c LT y OA oc Q) ∧ Hid (Good T y) ∧ Hid (LpR T fin ax n R y Q fu) ∧ Q.length ≤ 161)
    case atStart => exact ⟨_, _, none, 0, [], rfl, rfl, HS, HG, HL, Nat.zero_le _⟩
    case round =>
      clear HS HG HL
      obtain ⟨fu, y, OA, oc, Q, Hfu, rfl, HS, HG, HL, hQl⟩ := hrel
      have hyl : y.i < LT.length := by have := HLT.out.lt; have := HG.out.1; omega
      obtain ⟨D, HD⟩ := nm (y.why == 0 && decide (offF T fin y.i < n))
      have HD0 := HD
      rw [← HLT.out.pos HG.out.1, posT_eq hyl] at HD
      go_upto_region 6 with fail
      go_cut [36] (fun s wx => s = .bool D ∧ Upd Non wr wx)
      case first =>
        obtain ⟨c0, c1, c2, c3, c4, c5, c6⟩ := HS.out.rd.cells
        obtain ⟨b, o, rfl, hF, hb, t0_, t1, t2⟩ := HS.out.rd.tok.at_ hyl
        have hle := HS.out.rd.le
        have HH := Lib.hid HS.out.rd
        obtain ⟨ln, Hln⟩ := nm LT.length
        rw [Hln.out] at c0 hyl hle
        obtain ⟨i, Hi⟩ := nm y.i
        rw [Hi.out] at c1 hyl
        have t1' : wr.cell? ⟨b, o + i * 3 + 1, none⟩ = some (.int .i64 LT[y.i].pos) := by rw [← Hi.out]; exact t1
        generalize LT[y.i].pos = pz at *
        obtain ⟨z, Hz⟩ := nm (y.why == 0)
        rw [Hz.out] at HD
        have CO : Hid (∀ w', Upd Non wr w' → Calls Try.prog 17 #[.pointer (some ⟨w2.heap.size, 0, none⟩)] w' fun e w2 => e = .returned (.bool z) ∧ w2 = w') := fun w' u => by
          rw [← Hz.out]; exact rOk_c (HH.out.non u)
        obtain ⟨dd, Hdd⟩ := nm (decide (pz < n))
        rw [Hdd.out] at HD
        have hdd : decide ((pz : Int) < (n : Int)) = dd := by rw [← Hdd.out]; simp
        clear t0_ t1 t2 c2 c3 c4 c5 c6 HS HG HL CT
        obtain ⟨wD, HwD⟩ := nm wr.drew
        have uD : Upd Non wr wD := by rw [← HwD.out]; exact Upd.refl.drew
        refine wp_region_held_drew (S := fun w' => Upd Non wr w' ∧ w'.cell? ⟨w2.heap.size, 0, none⟩ = some (.slice (some ⟨b, o, none⟩) ln c) ∧ w'.cell? ⟨w2.heap.size, 1, none⟩ = some (.int .i64 i) ∧ w'.cell? ⟨b, o + i * 3 + 1, none⟩ = some (.int .i64 pz)) (by kernel_rfl) (by rw [HwD.out]; exact ⟨uD, cell_upd c0 uD (fun f => f), cell_upd c1 uD (fun f => f), cell_upd t1' uD (fun f => f)⟩) (fun hHeld => ?_)
        rw [HwD.out] at hHeld ⊢
        refine wpAnyH_take (i := 0) (v := ?_) rfl (by kernel_rfl) (by kernel_rfl) (by kernel_rfl) (fun _ _ _ h => h) (Or.inl ⟨by rfl, ?_⟩) (by assumption) ?_
        rotate_left
        · intro w hSw; (try dsimp only at hSw); go_simp; try with_reducible rfl
        try simp only [put_y]
        try simp only [Act.put]
        try simp only [put_z]
        refine wpAnyH_takeC (i := 1) (v := ?v1) rfl (by kernel_rfl) (by kernel_rfl) (by kernel_rfl) (fun _ _ _ h => h) ⟨by rfl, ?f1, ?a1, ?r1, ?c1⟩ (by assumption) ?m1
        case r1 => intro w; go_simp; constructor <;> with_reducible rfl
        case c1 => intro W hSw; refine (CO.out _ hSw.1).mono ?_; rintro e w' ⟨rfl, rfl⟩; constructor <;> with_reducible rfl
        try simp only [put_y]
        try simp only [Act.put]
        try simp only [put_z]
        cases z with
        | false =>
          obtain rfl : D = false := by rw [← HD.out]; rfl
          refine wpAnyH_take (i := 2) (v := ?_) rfl (by kernel_rfl) (by kernel_rfl) (by kernel_rfl) (fun _ _ _ h => h) (Or.inl ⟨by rfl, ?_⟩) (by assumption) ?_
          rotate_left
          · intro w hSw; (try dsimp only at hSw); go_simp; try with_reducible rfl
          try simp only [put_y]
          try simp only [Act.put]
          try simp only [put_z]
          refine wpAnyH_take (i := 3) (v := undef) rfl (by kernel_rfl) (by kernel_rfl) (by kernel_rfl) (fun _ _ _ h => h) (Or.inr ⟨by rfl, rfl⟩) (by assumption) ?_
          try simp only [put_y]
          try simp only [Act.put]
          try simp only [put_z]
          refine wpAnyH_take (i := 4) (v := undef) rfl (by kernel_rfl) (by kernel_rfl) (by kernel_rfl) (fun _ _ _ h => h) (Or.inr ⟨by rfl, rfl⟩) (by assumption) ?_
          try simp only [put_y]
          try simp only [Act.put]
          try simp only [put_z]
          refine wpAnyH_take (i := 5) (v := undef) rfl (by kernel_rfl) (by kernel_rfl) (by kernel_rfl) (fun _ _ _ h => h) (Or.inr ⟨by rfl, rfl⟩) (by assumption) ?_
          try simp only [put_y]
          try simp only [Act.put]
          try simp only [put_z]
          refine wpAnyH_take (i := 6) (v := undef) rfl (by kernel_rfl) (by kernel_rfl) (by kernel_rfl) (fun _ _ _ h => h) (Or.inr ⟨by rfl, rfl⟩) (by assumption) ?_
          try simp only [put_y]
          try simp only [Act.put]
          try simp only [put_z]
          refine wpAnyH_take (i := 7) (v := undef) rfl (by kernel_rfl) (by kernel_rfl) (by kernel_rfl) (fun _ _ _ h => h) (Or.inr ⟨by rfl, rfl⟩) (by assumption) ?_
          try simp only [put_y]
          try simp only [Act.put]
          try simp only [put_z]
          refine wpAnyH_take (i := 8) (v := undef) rfl (by kernel_rfl) (by kernel_rfl) (by kernel_rfl) (fun _ _ _ h => h) (Or.inr ⟨by rfl, rfl⟩) (by assumption) ?_
          try simp only [put_y]
          try simp only [Act.put]
          try simp only [put_z]
          refine wpAnyH_take (i := 9) (v := undef) rfl (by kernel_rfl) (by kernel_rfl) (by kernel_rfl) (fun _ _ _ h => h) (Or.inr ⟨by rfl, rfl⟩) (by assumption) ?_
          try simp only [put_y]
          try simp only [Act.put]
          try simp only [put_z]
          refine wpAnyH_take (i := 10) (v := undef) rfl (by kernel_rfl) (by kernel_rfl) (by kernel_rfl) (fun _ _ _ h => h) (Or.inr ⟨by rfl, rfl⟩) (by assumption) ?_
          try simp only [put_y]
          try simp only [Act.put]
          try simp only [put_z]
          refine wpAnyH_take (i := 11) (v := undef) rfl (by kernel_rfl) (by kernel_rfl) (by kernel_rfl) (fun _ _ _ h => h) (Or.inr ⟨by rfl, rfl⟩) (by assumption) ?_
          try simp only [put_y]
          try simp only [Act.put]
          try simp only [put_z]
          refine wpAnyH_take (i := 12) (v := undef) rfl (by kernel_rfl) (by kernel_rfl) (by kernel_rfl) (fun _ _ _ h => h) (Or.inr ⟨by rfl, rfl⟩) (by assumption) ?_
          try simp only [put_y]
          try simp only [Act.put]
          try simp only [put_z]
          refine wpAnyH_take (i := 13) (v := undef) rfl (by kernel_rfl) (by kernel_rfl) (by kernel_rfl) (fun _ _ _ h => h) (Or.inr ⟨by rfl, rfl⟩) (by assumption) ?_
          try simp only [put_y]
          try simp only [Act.put]
          try simp only [put_z]
          refine wpAnyH_take (i := 14) (v := undef) rfl (by kernel_rfl) (by kernel_rfl) (by kernel_rfl) (fun _ _ _ h => h) (Or.inr ⟨by rfl, rfl⟩) (by assumption) ?_
          try simp only [put_y]
          try simp only [Act.put]
          try simp only [put_z]
          refine wpAnyH_take (i := 15) (v := undef) rfl (by kernel_rfl) (by kernel_rfl) (by kernel_rfl) (fun _ _ _ h => h) (Or.inr ⟨by rfl, rfl⟩) (by assumption) ?_
          try simp only [put_y]
          try simp only [Act.put]
          try simp only [put_z]
          refine wpAnyH_take (i := 16) (v := undef) rfl (by kernel_rfl) (by kernel_rfl) (by kernel_rfl) (fun _ _ _ h => h) (Or.inr ⟨by rfl, rfl⟩) (by assumption) ?_
          try simp only [put_y]
          try simp only [Act.put]
          try simp only [put_z]
          refine wpAnyH_take (i := 17) (v := ?_) rfl (by kernel_rfl) (by kernel_rfl) (by kernel_rfl) (fun _ _ _ h => h) (Or.inl ⟨by rfl, ?_⟩) (by assumption) ?_
          rotate_left
          · intro w hSw; (try dsimp only at hSw); go_simp; try with_reducible rfl
          try simp only [put_y]
          try simp only [Act.put]
          try simp only [put_z]
          refine wpAnyH_done (by kernel_rfl) ?_ _
          go_wp2_with fail
          go_meet
          case rel => exact ⟨rfl, uD⟩
        | true =>
          obtain rfl : dd = D := by rw [← HD.out]; rfl
          refine wpAnyH_take (i := 2) (v := ?_) rfl (by kernel_rfl) (by kernel_rfl) (by kernel_rfl) (fun _ _ _ h => h) (Or.inl ⟨by rfl, ?_⟩) (by assumption) ?_
          rotate_left
          · intro w hSw; (try dsimp only at hSw); go_simp; try with_reducible rfl
          try simp only [put_y]
          try simp only [Act.put]
          try simp only [put_z]
          refine wpAnyH_take (i := 3) (v := ?_) rfl (by kernel_rfl) (by kernel_rfl) (by kernel_rfl) (fun _ _ _ h => h) (Or.inl ⟨by rfl, ?_⟩) (by assumption) ?_
          rotate_left
          · intro w hSw; (try dsimp only at hSw); go_simp; try with_reducible rfl
          try simp only [put_y]
          try simp only [Act.put]
          try simp only [put_z]
          refine wpAnyH_take (i := 4) (v := ?_) rfl (by kernel_rfl) (by kernel_rfl) (by kernel_rfl) (fun _ _ _ h => h) (Or.inl ⟨by rfl, ?_⟩) (by assumption) ?_
          rotate_left
          · intro w hSw; (try dsimp only at hSw); go_simp; try with_reducible rfl
          try simp only [put_y]
          try simp only [Act.put]
          try simp only [put_z]
          refine wpAnyH_take (i := 5) (v := ?_) rfl (by kernel_rfl) (by kernel_rfl) (by kernel_rfl) (fun _ _ _ h => h) (Or.inl ⟨by rfl, ?_⟩) (by assumption) ?_
          rotate_left
          · intro w hSw; (try dsimp only at hSw); go_simp; try with_reducible rfl
          try simp only [put_y]
          try simp only [Act.put]
          try simp only [put_z]
          refine wpAnyH_take (i := 6) (v := ?_) rfl (by kernel_rfl) (by kernel_rfl) (by kernel_rfl) (fun _ _ _ h => h) (Or.inl ⟨by rfl, ?_⟩) (by assumption) ?_
          rotate_left
          · intro w hSw; (try dsimp only at hSw); go_simp; try with_reducible rfl
          try simp only [put_y]
          try simp only [Act.put]
          try simp only [put_z]
          refine wpAnyH_take (i := 7) (v := ?_) rfl (by kernel_rfl) (by kernel_rfl) (by kernel_rfl) (fun _ _ _ h => h) (Or.inl ⟨by rfl, ?_⟩) (by assumption) ?_
          rotate_left
          · intro w hSw; (try dsimp only at hSw); go_simp; try with_reducible rfl
          try simp only [put_y]
          try simp only [Act.put]
          try simp only [put_z]
          refine wpAnyH_take (i := 8) (v := ?_) rfl (by kernel_rfl) (by kernel_rfl) (by kernel_rfl) (fun _ _ _ h => h) (Or.inl ⟨by rfl, ?_⟩) (by assumption) ?_
          rotate_left
          · intro w hSw; (try dsimp only at hSw); go_simp; try with_reducible rfl
          try simp only [put_y]
          try simp only [Act.put]
          try simp only [put_z]
          refine wpAnyH_take (i := 9) (v := ?_) rfl (by kernel_rfl) (by kernel_rfl) (by kernel_rfl) (fun _ _ _ h => h) (Or.inl ⟨by rfl, ?_⟩) (by assumption) ?_
          rotate_left
          · intro w hSw; (try dsimp only at hSw); go_simp; try with_reducible rfl
          try simp only [put_y]
          try simp only [Act.put]
          try simp only [put_z]
          refine wpAnyH_take (i := 10) (v := ?_) rfl (by kernel_rfl) (by kernel_rfl) (by kernel_rfl) (fun _ _ _ h => h) (Or.inl ⟨by rfl, ?_⟩) (by assumption) ?_
          rotate_left
          · intro w hSw; (try dsimp only at hSw); go_simp; try with_reducible rfl
          try simp only [put_y]
          try simp only [Act.put]
          try simp only [put_z]
          refine wpAnyH_take (i := 11) (v := ?_) rfl (by kernel_rfl) (by kernel_rfl) (by kernel_rfl) (fun _ _ _ h => h) (Or.inl ⟨by rfl, ?_⟩) (by assumption) ?_
          rotate_left
          · intro w hSw; (try dsimp only at hSw); go_simp; try with_reducible rfl
          try simp only [put_y]
          try simp only [Act.put]
          try simp only [put_z]
          refine wpAnyH_take (i := 12) (v := ?_) rfl (by kernel_rfl) (by kernel_rfl) (by kernel_rfl) (fun _ _ _ h => h) (Or.inl ⟨by rfl, ?_⟩) (by assumption) ?_
          rotate_left
          · intro w hSw; (try dsimp only at hSw); go_simp; try with_reducible rfl
          try simp only [put_y]
          try simp only [Act.put]
          try simp only [put_z]
          refine wpAnyH_take (i := 13) (v := ?_) rfl (by kernel_rfl) (by kernel_rfl) (by kernel_rfl) (fun _ _ _ h => h) (Or.inl ⟨by rfl, ?_⟩) (by assumption) ?_
          rotate_left
          · intro w hSw; (try dsimp only at hSw); go_simp; try with_reducible rfl
          try simp only [put_y]
          try simp only [Act.put]
          try simp only [put_z]
          refine wpAnyH_take (i := 14) (v := ?_) rfl (by kernel_rfl) (by kernel_rfl) (by kernel_rfl) (fun _ _ _ h => h) (Or.inl ⟨by rfl, ?_⟩) (by assumption) ?_
          rotate_left
          · intro w hSw; (try dsimp only at hSw); go_simp; try with_reducible rfl
          try simp only [put_y]
          try simp only [Act.put]
          try simp only [put_z]
          refine wpAnyH_take (i := 15) (v := ?_) rfl (by kernel_rfl) (by kernel_rfl) (by kernel_rfl) (fun _ _ _ h => h) (Or.inl ⟨by rfl, ?_⟩) (by assumption) ?_
          rotate_left
          · intro w hSw; (try dsimp only at hSw); go_simp; try with_reducible rfl
          try simp only [put_y]
          try simp only [Act.put]
          try simp only [put_z]
          refine wpAnyH_take (i := 16) (v := ?_) rfl (by kernel_rfl) (by kernel_rfl) (by kernel_rfl) (fun _ _ _ h => h) (Or.inl ⟨by rfl, ?_⟩) (by assumption) ?_
          rotate_left
          · intro w hSw; (try dsimp only at hSw); go_simp; try with_reducible rfl
          try simp only [put_y]
          try simp only [Act.put]
          try simp only [put_z]
          refine wpAnyH_take (i := 17) (v := ?_) rfl (by kernel_rfl) (by kernel_rfl) (by kernel_rfl) (fun _ _ _ h => h) (Or.inl ⟨by rfl, ?_⟩) (by assumption) ?_
          rotate_left
          · intro w hSw; (try dsimp only at hSw); go_simp; try with_reducible rfl
          try simp only [put_y]
          try simp only [Act.put]
          try simp only [put_z]
          refine wpAnyH_done (by kernel_rfl) ?_ _
          go_wp2_with fail
          go_meet
          case rel => exact ⟨congrArg Value.bool Hdd.out, uD⟩
      case rest =>
        obtain ⟨rfl, hwc⟩ := hcut
        have HS := Lib.hid (HS.out.non hwc)
        clear hwc
        cases D with
        | false =>
          obtain ⟨hx1, hx2⟩ := HL.out.exit HG.out.1 HD0.out
          have CO := Lib.hid (rOk_c HS.out.rd)
          have her := HS.out.er
          have r0 := her.cell 0
          have r1 := her.cell 1
          have rf := her.frozen
          obtain ⟨z, Hz⟩ := nm (y.why == 0)
          rw [Hz.out] at CO
          have HX1 := Lib.hid hx1
          have HX2 := Lib.hid hx2
          clear hx1 hx2 HL HD HD0
          cases z with
          | true =>
            have H0 : Hid (y.why = 0) := by have := Hz.out; exact beq_iff_eq.1 this
            go_wp2_with fail
            refine CO.out.mono ?_
            rintro e w5 ⟨rfl, rfl⟩
            go_wp2_with fail
            rw [setE2_eq]
            obtain ⟨f1, f2, f3, f4⟩ := HS.out.res (.int .i64 0) (.int .i64 0)
            refine bodyPost_ret (results_tmp_cell rfl _ _ w.heap.size 25 _ (0, 0) _ rfl f1 Try.underlying25 rfl (by kernel_rfl)) rfl ?_
            exact ⟨f2, .inr ⟨Q, OA, oc, HX1.out H0.out, rfl, f4, HS.out.out.le⟩⟩
          | false =>
            have H0 : Hid (y.why ≠ 0) := by have := Hz.out; exact fun q => by rw [q] at this; cases this
            go_wp2_with fail
            refine CO.out.mono ?_
            rintro e w5 ⟨rfl, rfl⟩
            go_upto_region 20 with fail
            obtain ⟨wD, HwD⟩ := nm w5.drew
            have uD : Upd Non w5 wD := by rw [← HwD.out]; exact Upd.refl.drew
            have HS := Lib.hid (HS.out.non uD)
            clear her r0 r1 rf
            have hcs := HS.out.rd.cells
            refine wp_region_held_drew (S := fun w' => w'.cell? ⟨w2.heap.size, 2, none⟩ = some (.int .i64 y.why) ∧ w'.cell? ⟨w2.heap.size, 3, none⟩ = some (.int .i64 y.ea)) (by kernel_rfl) (by rw [HwD.out]; exact ⟨hcs.2.2.1, hcs.2.2.2.1⟩) (fun hHeld => ?_)
            rw [HwD.out] at hHeld ⊢
            refine wpAnyH_take (i := 0) (v := ?_) rfl (by kernel_rfl) (by kernel_rfl) (by kernel_rfl) (fun _ _ _ h => h) (Or.inl ⟨by rfl, ?_⟩) (by assumption) ?_
            rotate_left
            · intro w hSw; (try dsimp only at hSw); go_simp; try with_reducible rfl
            try simp only [put_y]
            try simp only [Act.put]
            try simp only [put_z]
            refine wpAnyH_take (i := 1) (v := ?_) rfl (by kernel_rfl) (by kernel_rfl) (by kernel_rfl) (fun _ _ _ h => h) (Or.inl ⟨by rfl, ?_⟩) (by assumption) ?_
            rotate_left
            · intro w hSw; (try dsimp only at hSw); go_simp; try with_reducible rfl
            try simp only [put_y]
            try simp only [Act.put]
            try simp only [put_z]
            refine wpAnyH_take (i := 2) (v := ?_) rfl (by kernel_rfl) (by kernel_rfl) (by kernel_rfl) (fun _ _ _ h => h) (Or.inl ⟨by rfl, ?_⟩) (by assumption) ?_
            rotate_left
            · intro w hSw; (try dsimp only at hSw); go_simp; try with_reducible rfl
            try simp only [put_y]
            try simp only [Act.put]
            try simp only [put_z]
            refine wpAnyH_take (i := 3) (v := ?_) rfl (by kernel_rfl) (by kernel_rfl) (by kernel_rfl) (fun _ _ _ h => h) (Or.inl ⟨by rfl, ?_⟩) (by assumption) ?_
            rotate_left
            · intro w hSw; (try dsimp only at hSw); go_simp; try with_reducible rfl
            try simp only [put_y]
            try simp only [Act.put]
            try simp only [put_z]
            refine wpAnyH_take (i := 4) (v := ?_) rfl (by kernel_rfl) (by kernel_rfl) (by kernel_rfl) (fun _ _ _ h => h) (Or.inl ⟨by rfl, ?_⟩) (by assumption) ?_
            rotate_left
            · intro w hSw; (try dsimp only at hSw); go_simp; try with_reducible rfl
            try simp only [put_y]
            try simp only [Act.put]
            try simp only [put_z]
            have her := HS.out.er
            have r0 := her.cell 0
            have r1 := her.cell 1
            have rf := her.frozen
            refine wpAnyH_ready (rs := [5]) (by kernel_rfl) (by simp) ?_
            refine AllReadyH.cons rfl (fun K hK => ?_) AllReadyH.nil
            go_simp
            rw [setE2_eq]
            have HF := Lib.hid (HS.out.res (.int .i64 y.why) (.int .i64 y.ea))
            obtain ⟨W9, HW9⟩ := nm (setE2 wD w.heap.size (.int .i64 y.why) (.int .i64 y.ea))
            rw [HW9.out] at HF ⊢
            refine hK.out _ _ ?_ (fun hHeld => ?_)
            · exact ⟨HF.out.2.2.1.cell 2, HF.out.2.2.1.cell 3⟩
            clear hK K
            try simp only [put_y]
            try simp only [Act.put]
            try simp only [put_z]
            refine wpAnyH_done (by kernel_rfl) ?_ _
            go_wp2_with fail
            refine bodyPost_ret (results_tmp_cell rfl _ _ w.heap.size 25 _ (0, 0) _ rfl HF.out.1 Try.underlying25 rfl (by kernel_rfl)) rfl ?_
            exact ⟨HF.out.2.1, .inl ⟨_, HX2.out H0.out, rfl⟩⟩
        | true =>
          have hD := HD0.out
          simp only [Bool.and_eq_true, beq_iff_eq, decide_eq_true_eq] at hD
          have H0 := Lib.hid hD.1
          have HDT := Lib.hid hD.2
          have CIT := Lib.hid (rItem_c HLT.out ax HAX HS.out.rd HG.out)
          clear hD HD HD0 CT
          go_wp2_with fail
          refine CIT.out.mono ?_
          rintro e w5 ⟨rl, a, ts, tp, b, y', rfl, hrk, hrd', hg', ho', hu', hres⟩
          have HS5 := Lib.hid (HS.out.call hrd' ho' hu')
          have hmw : w2.heap.size + 1 < wc.heap.size := HS.out.map.lt
          have hoa : ∀ k, At OA k → k < wc.heap.size := fun k q => HS.out.out.lt q
          have hs5 := hu'.size
          obtain ⟨m, Hm⟩ := nm wc.heap.size
          rw [Hm.out] at hrk hmw hoa hs5
          have HRK := Lib.hid hrk
          have HOA := Lib.hid hoa
          clear hoa Hm
          have HG' := Lib.hid hg'
          have hQ2 : Q.length ≤ 160 := (HL.out.1 H0.out).2.1
          have HRD := Lib.hid (HL.out.item HLT.out hax HG.out.1 H0.out HDT.out hres)
          clear hrk hrd' hg' ho' hu' hres CIT HS HL HG H0 HDT
          unfold rlv tokVal rlCells
          go_upto_block 2 with fail
          obtain ⟨W6, HW6⟩ := nm (w5.alloc (.cells #[.string rl.name, .int .i64 rl.l.v, .int .i64 rl.l.op, .int .i64 rl.l.imm, .int .i64 rl.l.iv, .slice a.la rl.l.kids.length a.lc, .int .i64 rl.r.v, .int .i64 rl.r.op, .int .i64 rl.r.imm, .int .i64 rl.r.iv, .slice a.ra rl.r.kids.length a.rc, .slice a.ca rl.conds.length a.cc, .int .i64 rl.vars, .int .i64 rl.imms] 33))
          have u6 : Upd Non w5 W6 := by rw [← HW6.out]; exact Upd.refl.alloc _
          have b6 : Blk W6 w5.heap.size 33 (rlCells rl a) := by rw [← HW6.out]; exact Blk.new _ _ _
          have s6 : W6.heap.size = w5.heap.size + 1 := by rw [← HW6.out]; simp
          rw [HW6.out]
          obtain ⟨W7, HW7⟩ := nm (W6.alloc (.cells #[.string (kstr ts), .int .i64 tp, .bool false] 60))
          have u7 : Upd Non W6 W7 := by rw [← HW7.out]; exact Upd.refl.alloc _
          have b7 : Blk W7 (w5.heap.size + 1) 60 #[.string (kstr ts), .int .i64 tp, .bool false] := by rw [← HW7.out, ← s6]; exact Blk.new _ _ _
          rw [HW7.out]
          have hu7 : Upd Non w5 W7 := u6.then_non u7
          have HS := Lib.hid (HS5.out.non hu7)
          have HRK := Lib.hid (HRK.out.upd hu7 (fun _ _ _ f => f))
          have HX := Lib.hid (b6.upd u7 (fun f => f))
          have HK := Lib.hid b7
          have hs7 := hu7.size
          clear u6 u7 b6 b7 hu7 HW6 HW7 HS5
          have CO := Lib.hid (rOk_c HS.out.rd)
          obtain ⟨z, Hz⟩ := nm (y'.why == 0)
          rw [Hz.out] at CO
          go_cut [] (fun wx => ∃ (y2 : St), Hid (PaS w wx w2.heap.size (w2.heap.size + 1) A c LT y2 OA oc Q) ∧ Hid (Good T y2) ∧ Hid (∀ k, y2.own w2.heap.size k → y'.own w2.heap.size k) ∧ Hid (Upd (· = w2.heap.size) W7 wx) ∧ Hid (LpR T fin ax n R y2 (Q ++ [rl]) (fu - 1)))
          case first =>
            cases z with
            | false =>
              have H0 : y'.why ≠ 0 := by have := Hz.out; exact fun q => by rw [q] at this; cases this
              have HL : Hid (LpR T fin ax n R y' (Q ++ [rl]) (fu - 1)) := ⟨fun q => absurd q H0, HRD.out.2.1⟩
              clear H0
              go_wp2_with fail
              refine CO.out.mono ?_
              rintro e w8 ⟨rfl, rfl⟩
              clear CO
              go_wp2_with fail
              go_meet
              case rel => exact ⟨y', HS, HG', fun _ q => q, Upd.refl, HL⟩
            | true =>
              have H0 : Hid (y'.why = 0) := by have := Hz.out; exact beq_iff_eq.1 this
              have HR2 := Lib.hid (HRD.out.2.2 H0.out)
              have v1 := HK.out.cell 1
              cases b with
              | false =>
                have HRR := Lib.hid (HR2.out.2.1 rfl)
                have CF := Lib.hid (rFail_c HS.out.rd 3 tp)
                go_wp2_with fail
                refine CO.out.mono ?_
                rintro e w8 ⟨rfl, rfl⟩
                clear CO
                have HU : Hid (Upd (· = w2.heap.size) w8 w8) := Upd.refl
                go_wp2_with fail
                refine CF.out.mono ?_
                rintro e w9 ⟨rfl, hr9, hu9⟩
                have HS9 := Lib.hid (HS.out.call hr9 (fun k q => .inl ((fail_own _ _ _ _ _).1 q)) (hu9.mono (fun _ _ e => .inl e)))
                have HU9 := Lib.hid (HU.out.trans hu9 (fun _ _ q => q))
                clear hr9 hu9 CF
                go_wp2_with fail
                go_meet
                case rel => exact ⟨_, HS9, Good.fail HG'.out.1 (by decide), fun k q => (fail_own _ _ _ _ _).1 q, HU9, RndR.err H0.out (by decide) HRR.out⟩
              | true =>
                have HRT := Lib.hid (HR2.out.2.2 rfl)
                have CV := Lib.hid (rlValid_c rl a _ W7 HRK.out HRT.out.1)
                unfold rlv rlCells at CV
                have hbx := HX.out
                unfold rlCells at hbx
                have k0 := hbx.cell 0
                have k1 := hbx.cell 1
                have k2 := hbx.cell 2
                have k3 := hbx.cell 3
                have k4 := hbx.cell 4
                have k5 := hbx.cell 5
                have k6 := hbx.cell 6
                have k7 := hbx.cell 7
                have k8 := hbx.cell 8
                have k9 := hbx.cell 9
                have k10 := hbx.cell 10
                have k11 := hbx.cell 11
                have k12 := hbx.cell 12
                have k13 := hbx.cell 13
                obtain ⟨v, Hv⟩ := nm (implF rl)
                rw [Hv.out] at CV
                clear hbx
                go_wp2_with fail
                refine CO.out.mono ?_
                rintro e w8 ⟨rfl, rfl⟩
                clear CO
                go_wp2_with fail
                refine CV.out.mono ?_
                rintro e w9 ⟨rfl, hu9⟩
                have HS := Lib.hid (HS.out.non hu9)
                have HU : Hid (Upd (· = w2.heap.size) w8 w9) := hu9.mono (fun _ _ f => f.elim)
                have v1 := cell_upd v1 hu9 (fun f => f)
                have k0 := cell_upd k0 hu9 (fun f => f)
                clear CV hu9 k1 k2 k3 k4 k5 k6 k7 k8 k9 k10 k11 k12 k13
                cases v with
                | false =>
                  have HRR := Lib.hid (HRT.out.2.1 Hv.out)
                  have CF := Lib.hid (rFail_c HS.out.rd 1 tp)
                  clear k0
                  go_wp2_with fail
                  refine CF.out.mono ?_
                  rintro e w9 ⟨rfl, hr9, hu9⟩
                  have HS9 := Lib.hid (HS.out.call hr9 (fun k q => .inl ((fail_own _ _ _ _ _).1 q)) (hu9.mono (fun _ _ e => .inl e)))
                  have HU9 := Lib.hid (HU.out.trans hu9 (fun _ _ q => q))
                  clear hr9 hu9 CF
                  go_wp2_with fail
                  go_meet
                  case rel => exact ⟨_, HS9, Good.fail HG'.out.1 (by decide), fun k q => (fail_own _ _ _ _ _).1 q, HU9, RndR.err H0.out (by decide) HRR.out⟩
                | true =>
                  have HRV := Lib.hid (HRT.out.2.2 Hv.out)
                  have hlook := HS.out.map.look1 Try.underlying58 Try.underlying9 (zeroBoolP _) rl.name
                  rw [nmV_get] at hlook
                  obtain ⟨d, Hd⟩ := nm (Q.any (fun q => decide (q.name = rl.name)))
                  rw [Hd.out] at hlook
                  cases d with
                  | true =>
                    have HRR := Lib.hid (HRV.out.1 Hd.out)
                    have CF := Lib.hid (rFail_c HS.out.rd 4 tp)
                    go_wp2_with fail
                    refine CF.out.mono ?_
                    rintro e w9 ⟨rfl, hr9, hu9⟩
                    have HS9 := Lib.hid (HS.out.call hr9 (fun k q => .inl ((fail_own _ _ _ _ _).1 q)) (hu9.mono (fun _ _ e => .inl e)))
                    have HU9 := Lib.hid (HU.out.trans hu9 (fun _ _ q => q))
                    clear hr9 hu9 CF
                    go_wp2_with fail
                    go_meet
                    case rel => exact ⟨_, HS9, Good.fail HG'.out.1 (by decide), fun k q => (fail_own _ _ _ _ _).1 q, HU9, RndR.err H0.out (by decide) HRR.out⟩
                  | false =>
                    have HRW := Lib.hid (HRV.out.2 Hd.out)
                    by_cases hq : Q.length = 160
                    · have HRR := Lib.hid (HRW.out.1 hq)
                      have tq : ((Q.length : Int) == 160) = true := by rw [hq]; rfl
                      have CF := Lib.hid (rFail_c HS.out.rd 6 tp)
                      clear hq
                      go_wp2_with fail
                      refine CF.out.mono ?_
                      rintro e w9 ⟨rfl, hr9, hu9⟩
                      have HS9 := Lib.hid (HS.out.call hr9 (fun k q => .inl ((fail_own _ _ _ _ _).1 q)) (hu9.mono (fun _ _ e => .inl e)))
                      have HU9 := Lib.hid (HU.out.trans hu9 (fun _ _ q => q))
                      clear hr9 hu9 CF
                      go_wp2_with fail
                      go_meet
                      case rel => exact ⟨_, HS9, Good.fail HG'.out.1 (by decide), fun k q => (fail_own _ _ _ _ _).1 q, HU9, RndR.err H0.out (by decide) HRR.out⟩
                    · have HLP := Lib.hid (HRW.out.2 hq)
                      have tq : ((Q.length : Int) == 160) = false := by simpa using fun q => hq (by omega)
                      clear hq
                      go_wp2_with fail
                      go_meet
                      case rel => exact ⟨y', HS, HG', fun _ q => q, HU, HLP⟩
          case rest =>
            clear HS HG' CO Hz
            obtain ⟨y2, HS, HG, HO, HU, HL⟩ := hcut
            have hbx := HX.out.upd HU.out (by omega)
            have HXX := Lib.hid hbx
            have HRK : Hid (RlK wc (fun k => m ≤ k ∧ ¬ y2.own w2.heap.size k) rl a) := (HRK.out.upd HU.out (fun k _ q e => by have := q.1; omega)).mono (fun k _ q => ⟨q.1, fun r => q.2 (HO.out k r)⟩)
            have hlw := HU.out.size
            obtain ⟨w10, hst, hsm, hus⟩ := HS.out.map.store Try.underlying58 Try.underlying9 rl.name (.bool true)
            rw [nmV_snoc] at hsm
            unfold rlCells at hbx
            have k0 := hbx.cell 0
            obtain ⟨_, cs, hown, hcells⟩ := id HS.out.out
            have HCS := Lib.hid hcells
            have hown2 := hown.upd hus (fun k q e => by have := HS.out.oat k q; omega)
            have hb2 := hbx.upd hus (by omega)
            have z0 := hb2.cell 0
            have z1 := hb2.cell 1
            have z2 := hb2.cell 2
            have z3 := hb2.cell 3
            have z4 := hb2.cell 4
            have z5 := hb2.cell 5
            have z6 := hb2.cell 6
            have z7 := hb2.cell 7
            have z8 := hb2.cell 8
            have z9 := hb2.cell 9
            have z10 := hb2.cell 10
            have z11 := hb2.cell 11
            have z12 := hb2.cell 12
            have z13 := hb2.cell 13
            have HM2 := Lib.hid hsm
            have HU2 := Lib.hid hus
            clear hcells hbx hsm hus hb2 hown
            go_wp2_with (at_builtin; refine wpList_app rfl rfl T_rules rfl (hown2.alloc _) rfl (Sl.new _ _ _) rfl (by simp [Value.oneCell']) (by simp only [maxLen]; omega) (by omega) ?_; intro A4 c4 w4 ho4 hu4 hat4)
            have HN : Hid (PaS w w4 w2.heap.size (w2.heap.size + 1) A c LT y2 A4 c4 (Q ++ [rl])) := HS.out.app HRK.out hmw HOA.out HCS.out HM2.out HU2.out (Upd.refl.alloc _) ho4 hu4 hat4
            have hfu := HRD.out.1
            clear z0 z1 z2 z3 z4 z5 z6 z7 z8 z9 z10 z11 z12 z13 ho4 hu4 hat4 hst k0 HCS hown2
            go_roundg (fu - 1)
            case measure => rw [Hfu.out]; omega
            case rel => exact ⟨fu - 1, y2, A4, c4, Q ++ [rl], rfl, by rw [List.length_append]; rfl, HN, HG, HL, by rw [List.length_append, List.length_singleton]; omega⟩
end Go.Proofs.Ytblkgjdhaibhgaa
