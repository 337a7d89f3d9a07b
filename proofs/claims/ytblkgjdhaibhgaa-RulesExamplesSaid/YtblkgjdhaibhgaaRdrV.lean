/-
  What the reader's variable does, for pattern variables and for immediate ones.
-/
import Derived.Test.YtblkgjdhaibhgaaRdrL
namespace Go.Proofs.Ytblkgjdhaibhgaa
open Go.RowKit

/-- The same place, error and side. -/
structure Keeps (w : World) (p : Nat) (x y : St) : Prop where
  i : y.i = x.i
  why : y.why = x.why
  ea : y.ea = x.ea
  left : y.left = x.left
  own : ∀ k, y.own p k → x.own p k ∨ w.heap.size ≤ k
theorem Keeps.refl {w : World} {p : Nat} {x : St} : Keeps w p x x := ⟨rfl, rfl, rfl, rfl, fun _ h => .inl h⟩
theorem varF_short {s : Bs} (h : s.length ≠ 2) (c : Nat) (l : Bs) (left : Bool) : varF s c l left = (0, l) := by
  match s, h with
  | [], _ => rfl
  | [_], _ => rfl
  | _ :: _ :: _ :: _, _ => rfl

theorem rLookV_c {w : World} {p : Nat} {A : Option Addr} {c : Nat} {L : List Tok} {x : St} (h : RdS w p A c L x) (hn : x.vs.length ≤ 100000) (ch : UInt8) (left : Bool) :
    Calls Try.prog 82 #[.pointer (some ⟨p, 4, none⟩), .int .u8 ch.toNat, .bool left] w fun e w' => e = .returned (.int .i64 (lookF x.vs ch left).1) ∧ ∃ y, RdS w' p A c L y ∧ y.vs = (lookF x.vs ch left).2 ∧ y.ms = x.ms ∧ Keeps w p x y ∧ Upd (x.own p) w w' := by
  refine (rLookup_c w p 4 57 _ x.va x.vc x.vs h.blk rfl h.v h.vp ch left hn).mono ?_
  rintro e w' ⟨rfl, VA, vc, hb, hv, hat, hu⟩
  refine ⟨rfl, { x with va := VA, vc := vc, vs := (lookF x.vs ch left).2 }, ⟨hb, ?_, h.le, hv, (h.m.upd hu (fun k hk q => by rcases q with q | q; exact h.mp (q ▸ hk); exact h.vm k q hk)), ?_, ?_, ?_⟩, rfl, rfl, ⟨rfl, rfl, rfl, rfl, ?_⟩, ?_⟩
  · exact h.tok.upd hu (fun k hk hp q => by
      rcases q with q | q
      · omega
      · have := h.vlt k q; omega)
  · exact fun k hk q => by rcases hat k hk with r | r; exact h.vm k r q; have := h.m.lt q; omega
  · exact fun k hk => by rcases hat k hk with r | r; exact h.vlt k r; have := h.blk.lt; omega
  · exact h.mlt
  · rintro k (q | q | q)
    · exact .inl (.inl q)
    · exact (hat k q).imp_left (fun r => .inr (.inl r))
    · exact .inl (.inr (.inr q))
  · exact hu.mono (fun k _ q => by
      rcases q with q | q
      · exact .inl q
      · exact .inr (.inl q))
set_option maxHeartbeats 1000000 in
theorem rVarV_c {w : World} {p : Nat} {A : Option Addr} {c : Nat} {L : List Tok} {x : St} (h : RdS w p A c L x) (hn : x.vs.length ≤ 100000) (s : Bs) (cc : UInt8) (hs : s.length ≤ 1000000) :
    Calls Try.prog 66 #[.pointer (some ⟨p, 0, none⟩), .string (kstr s), .int .u8 cc.toNat, .pointer (some ⟨p, 4, none⟩)] w fun e w' => e = .returned (.int .i64 (varF s cc.toNat x.vs x.left).1) ∧ ∃ y, RdS w' p A c L y ∧ y.vs = (varF s cc.toNat x.vs x.left).2 ∧ y.ms = x.ms ∧ Keeps w p x y ∧ Upd (x.own p) w w' := by
  have hz : (kstr s).size = s.length := kstr_size s
  by_cases h2 : s.length = 2
  · match s, h2 with
    | [a, b], _ =>
      have i0 := fun W => run_at_str hz (show 0 < 2 by omega) W
      have i1 := fun W => run_at_str hz (show 1 < 2 by omega) W
      rw [kx_kstr, show ([a, b] : Bs).getD 0 0 = a from rfl, show ((0 : Nat) : Int) = 0 from rfl] at i0
      rw [kx_kstr, show ([a, b] : Bs).getD 1 0 = b from rfl, show ((1 : Nat) : Int) = 1 from rfl] at i1
      rw [show ([a, b] : Bs).length = 2 from rfl] at hz
      have HV : Hid (varF [a, b] cc.toNat x.vs x.left = if a.toNat = cc.toNat ∧ isLw b = true then lookF x.vs b x.left else (0, x.vs)) := rfl
      obtain ⟨str, Hstr⟩ := nm (kstr [a, b])
      rw [Hstr.out] at hz i0 i1
      rw [Hstr.out]
      by_cases ha : a.toNat = cc.toNat
      · have f0 : (((a.toNat : Nat) : Int) != ((cc.toNat : Nat) : Int)) = false := by rw [ha]; simp
        have CL := Lib.hid (rIsLower_c b w)
        obtain ⟨lw, Hlw⟩ := nm (isLw b)
        rw [Hlw.out] at CL HV
        cases lw with
        | true =>
          have HV2 : Hid (varF [a, b] cc.toNat x.vs x.left = lookF x.vs b x.left) := by show _ = _; rw [HV.out, if_pos ⟨ha, rfl⟩]
          obtain ⟨c0, c1, c2, c3, c4, c5, c6⟩ := h.cells
          have H := Lib.hid h
          clear ha HV h c0 c1 c2 c3 c4 c5
          go_enter Try.func66, Try.ntmps66
          go_wp2_with fail
          refine CL.out.mono ?_
          rintro e w1 ⟨rfl, rfl⟩
          go_upto_region 3 with fail
          obtain ⟨wD, HwD⟩ := nm w1.drew
          have uD : Upd Non w1 wD := by rw [← HwD.out]; exact Upd.refl.drew
          have C := Lib.hid (rLookV_c (H.out.non uD) hn b x.left)
          refine wp_region_held_drew (S := fun w' => w'.cell? ⟨p, 6, none⟩ = some (.bool x.left)) (by kernel_rfl) (by rw [HwD.out]; exact cell_upd c6 uD (fun f => f)) (fun hHeld => ?_)
          rw [HwD.out] at hHeld ⊢
          refine wpAnyH_take (i := 0) (v := ?_) rfl (by kernel_rfl) (by kernel_rfl) (by kernel_rfl) (fun _ _ _ h => h) (Or.inl ⟨by rfl, ?_⟩) (by assumption) ?_
          rotate_left
          · intro w hSw; (try dsimp only at hSw); go_simp; try with_reducible rfl
          try simp only [put_y]
          try simp only [Act.put]
          try simp only [put_z]
          refine wpAnyH_take (i := 1) (v := ?_) rfl (by kernel_rfl) (by kernel_rfl) (by kernel_rfl) (fun _ _ _ h => h) (Or.inl ⟨by rfl, ?_⟩) (by assumption) ?_
          rotate_left
          · intro w hSw; (try dsimp only at hSw); go_simp; try with_reducible rfl
          try simp only [put_y]
          try simp only [Act.put]
          try simp only [put_z]
          refine wpAnyH_take (i := 2) (v := ?_) rfl (by kernel_rfl) (by kernel_rfl) (by kernel_rfl) (fun _ _ _ h => h) (Or.inl ⟨by rfl, ?_⟩) (by assumption) ?_
          rotate_left
          · intro w hSw; (try dsimp only at hSw); go_simp; try with_reducible rfl
          try simp only [put_y]
          try simp only [Act.put]
          try simp only [put_z]
          refine wpAnyH_take (i := 3) (v := ?_) rfl (by kernel_rfl) (by kernel_rfl) (by kernel_rfl) (fun _ _ _ h => h) (Or.inl ⟨by rfl, ?_⟩) (by assumption) ?_
          rotate_left
          · intro w hSw; (try dsimp only at hSw); go_simp; try with_reducible rfl
          try simp only [put_y]
          try simp only [Act.put]
          try simp only [put_z]
          refine wpAnyH_take (i := 4) (v := ?_) rfl (by kernel_rfl) (by kernel_rfl) (by kernel_rfl) (fun _ _ _ h => h) (Or.inl ⟨by rfl, ?_⟩) (by assumption) ?_
          rotate_left
          · intro w hSw; (try dsimp only at hSw); go_simp; try with_reducible rfl
          try simp only [put_y]
          try simp only [Act.put]
          try simp only [put_z]
          refine wpAnyH_take (i := 5) (v := ?_) rfl (by kernel_rfl) (by kernel_rfl) (by kernel_rfl) (fun _ _ _ h => h) (Or.inl ⟨by rfl, ?_⟩) (by assumption) ?_
          rotate_left
          · intro w hSw; (try dsimp only at hSw); go_simp; try with_reducible rfl
          try simp only [put_y]
          try simp only [Act.put]
          try simp only [put_z]
          refine wpAnyH_take (i := 6) (v := ?_) rfl (by kernel_rfl) (by kernel_rfl) (by kernel_rfl) (fun _ _ _ h => h) (Or.inl ⟨by rfl, ?_⟩) (by assumption) ?_
          rotate_left
          · intro w hSw; (try dsimp only at hSw); go_simp; try with_reducible rfl
          try simp only [put_y]
          try simp only [Act.put]
          try simp only [put_z]
          refine wpAnyH_ready (rs := [7]) (by kernel_rfl) (by simp) ?_
          refine AllReadyH.cons rfl (fun K hK => ?_) AllReadyH.nil
          go_simp
          refine C.out.mono ?_
          rintro e w2 ⟨rfl, y, hy, hy1, hy2, hk, hu⟩
          go_wp2_with fail
          have d6 := hy.cells.2.2.2.2.2.2
          rw [hk.left] at d6
          refine hK.out _ _ ?_ (fun hHeld => ?_)
          · exact d6
          clear hK K
          try simp only [put_y]
          try simp only [Act.put]
          try simp only [put_z]
          refine wpAnyH_take (i := 8) (v := ?_) rfl (by kernel_rfl) (by kernel_rfl) (by kernel_rfl) (fun _ _ _ h => h) (Or.inl ⟨by rfl, ?_⟩) (by assumption) ?_
          rotate_left
          · intro w hSw; (try dsimp only at hSw); go_simp; try with_reducible rfl
          try simp only [put_y]
          try simp only [Act.put]
          try simp only [put_z]
          refine wpAnyH_done (by kernel_rfl) ?_ _
          have hk2 : Keeps w1 p x y := ⟨hk.i, hk.why, hk.ea, hk.left, fun k q => (hk.own k q).imp_right (fun r => Nat.le_trans uD.size r)⟩
          have hu2 : Upd (x.own p) w1 w2 := (uD.mono (fun _ _ f => f.elim)).trans hu (fun _ _ h => h)
          have hv2 := HV2.out
          clear hHeld C CL
          go_wp2_with fail
          go_ret
          refine ⟨by rw [hv2]; rfl, y, hy, by rw [hv2]; exact hy1, hy2, hk2, hu2⟩
        | false =>
          have HV2 : Hid (varF [a, b] cc.toNat x.vs x.left = (0, x.vs)) := by show _ = _; rw [HV.out, if_neg (fun q => by cases q.2)]
          have H := Lib.hid h
          clear ha HV h
          go_enter Try.func66, Try.ntmps66
          go_wp2_with fail
          refine CL.out.mono ?_
          rintro e w1 ⟨rfl, rfl⟩
          go_wp2_with fail
          go_ret
          exact ⟨by rw [HV2.out]; rfl, x, H.out, by rw [HV2.out], rfl, Keeps.refl, Upd.refl⟩
      · have f0 : (((a.toNat : Nat) : Int) != ((cc.toNat : Nat) : Int)) = true := by simp; omega
        have HV2 : Hid (varF [a, b] cc.toNat x.vs x.left = (0, x.vs)) := by show _ = _; rw [HV.out, if_neg (fun q => ha q.1)]
        have H := Lib.hid h
        clear ha HV h
        go_enter Try.func66, Try.ntmps66
        go_wp2_with fail
        go_ret
        exact ⟨by rw [HV2.out]; rfl, x, H.out, by rw [HV2.out], rfl, Keeps.refl, Upd.refl⟩
  · have hv := varF_short h2 cc.toNat x.vs x.left
    have HV := Lib.hid hv
    have H := Lib.hid h
    obtain ⟨n, Hn⟩ := nm s.length
    rw [Hn.out] at hz hs h2
    have f0 : (((n : Nat) : Int) != 2) = true := by simp; omega
    obtain ⟨str, Hstr⟩ := nm (kstr s)
    rw [Hstr.out] at hz
    rw [Hstr.out]
    clear hv h
    go_enter Try.func66, Try.ntmps66
    go_wp2_with fail
    go_ret
    exact ⟨by rw [HV.out]; rfl, x, H.out, by rw [HV.out], rfl, Keeps.refl, Upd.refl⟩

theorem rLookM_c {w : World} {p : Nat} {A : Option Addr} {c : Nat} {L : List Tok} {x : St} (h : RdS w p A c L x) (hn : x.ms.length ≤ 100000) (ch : UInt8) (left : Bool) :
    Calls Try.prog 82 #[.pointer (some ⟨p, 5, none⟩), .int .u8 ch.toNat, .bool left] w fun e w' => e = .returned (.int .i64 (lookF x.ms ch left).1) ∧ ∃ y, RdS w' p A c L y ∧ y.ms = (lookF x.ms ch left).2 ∧ y.vs = x.vs ∧ Keeps w p x y ∧ Upd (x.own p) w w' := by
  refine (rLookup_c w p 5 57 _ x.ma x.mc x.ms h.blk rfl h.m h.mp ch left hn).mono ?_
  rintro e w' ⟨rfl, VA, vc, hb, hv, hat, hu⟩
  refine ⟨rfl, { x with ma := VA, mc := vc, ms := (lookF x.ms ch left).2 }, ⟨hb, ?_, h.le, (h.v.upd hu (fun k hk q => by rcases q with q | q; exact h.vp (q ▸ hk); exact h.vm k hk q)), hv, ?_, ?_, ?_⟩, rfl, rfl, ⟨rfl, rfl, rfl, rfl, ?_⟩, ?_⟩
  · exact h.tok.upd hu (fun k hk hp q => by
      rcases q with q | q
      · omega
      · have := h.mlt k q; omega)
  · exact fun k hk q => by rcases hat k q with r | r; exact h.vm k hk r; have := h.v.lt hk; omega
  · exact h.vlt
  · exact fun k hk => by rcases hat k hk with r | r; exact h.mlt k r; have := h.blk.lt; omega
  · rintro k (q | q | q)
    · exact .inl (.inl q)
    · exact .inl (.inr (.inl q))
    · exact (hat k q).imp_left (fun r => .inr (.inr r))
  · exact hu.mono (fun k _ q => by
      rcases q with q | q
      · exact .inl q
      · exact .inr (.inr q))
set_option maxHeartbeats 1000000 in
theorem rVarM_c {w : World} {p : Nat} {A : Option Addr} {c : Nat} {L : List Tok} {x : St} (h : RdS w p A c L x) (hn : x.ms.length ≤ 100000) (s : Bs) (cc : UInt8) (hs : s.length ≤ 1000000) :
    Calls Try.prog 66 #[.pointer (some ⟨p, 0, none⟩), .string (kstr s), .int .u8 cc.toNat, .pointer (some ⟨p, 5, none⟩)] w fun e w' => e = .returned (.int .i64 (varF s cc.toNat x.ms x.left).1) ∧ ∃ y, RdS w' p A c L y ∧ y.ms = (varF s cc.toNat x.ms x.left).2 ∧ y.vs = x.vs ∧ Keeps w p x y ∧ Upd (x.own p) w w' := by
  have hz : (kstr s).size = s.length := kstr_size s
  by_cases h2 : s.length = 2
  · match s, h2 with
    | [a, b], _ =>
      have i0 := fun W => run_at_str hz (show 0 < 2 by omega) W
      have i1 := fun W => run_at_str hz (show 1 < 2 by omega) W
      rw [kx_kstr, show ([a, b] : Bs).getD 0 0 = a from rfl, show ((0 : Nat) : Int) = 0 from rfl] at i0
      rw [kx_kstr, show ([a, b] : Bs).getD 1 0 = b from rfl, show ((1 : Nat) : Int) = 1 from rfl] at i1
      rw [show ([a, b] : Bs).length = 2 from rfl] at hz
      have HV : Hid (varF [a, b] cc.toNat x.ms x.left = if a.toNat = cc.toNat ∧ isLw b = true then lookF x.ms b x.left else (0, x.ms)) := rfl
      obtain ⟨str, Hstr⟩ := nm (kstr [a, b])
      rw [Hstr.out] at hz i0 i1
      rw [Hstr.out]
      by_cases ha : a.toNat = cc.toNat
      · have f0 : (((a.toNat : Nat) : Int) != ((cc.toNat : Nat) : Int)) = false := by rw [ha]; simp
        have CL := Lib.hid (rIsLower_c b w)
        obtain ⟨lw, Hlw⟩ := nm (isLw b)
        rw [Hlw.out] at CL HV
        cases lw with
        | true =>
          have HV2 : Hid (varF [a, b] cc.toNat x.ms x.left = lookF x.ms b x.left) := by show _ = _; rw [HV.out, if_pos ⟨ha, rfl⟩]
          obtain ⟨c0, c1, c2, c3, c4, c5, c6⟩ := h.cells
          have H := Lib.hid h
          clear ha HV h c0 c1 c2 c3 c4 c5
          go_enter Try.func66, Try.ntmps66
          go_wp2_with fail
          refine CL.out.mono ?_
          rintro e w1 ⟨rfl, rfl⟩
          go_upto_region 3 with fail
          obtain ⟨wD, HwD⟩ := nm w1.drew
          have uD : Upd Non w1 wD := by rw [← HwD.out]; exact Upd.refl.drew
          have C := Lib.hid (rLookM_c (H.out.non uD) hn b x.left)
          refine wp_region_held_drew (S := fun w' => w'.cell? ⟨p, 6, none⟩ = some (.bool x.left)) (by kernel_rfl) (by rw [HwD.out]; exact cell_upd c6 uD (fun f => f)) (fun hHeld => ?_)
          rw [HwD.out] at hHeld ⊢
          refine wpAnyH_take (i := 0) (v := ?_) rfl (by kernel_rfl) (by kernel_rfl) (by kernel_rfl) (fun _ _ _ h => h) (Or.inl ⟨by rfl, ?_⟩) (by assumption) ?_
          rotate_left
          · intro w hSw; (try dsimp only at hSw); go_simp; try with_reducible rfl
          try simp only [put_y]
          try simp only [Act.put]
          try simp only [put_z]
          refine wpAnyH_take (i := 1) (v := ?_) rfl (by kernel_rfl) (by kernel_rfl) (by kernel_rfl) (fun _ _ _ h => h) (Or.inl ⟨by rfl, ?_⟩) (by assumption) ?_
          rotate_left
          · intro w hSw; (try dsimp only at hSw); go_simp; try with_reducible rfl
          try simp only [put_y]
          try simp only [Act.put]
          try simp only [put_z]
          refine wpAnyH_take (i := 2) (v := ?_) rfl (by kernel_rfl) (by kernel_rfl) (by kernel_rfl) (fun _ _ _ h => h) (Or.inl ⟨by rfl, ?_⟩) (by assumption) ?_
          rotate_left
          · intro w hSw; (try dsimp only at hSw); go_simp; try with_reducible rfl
          try simp only [put_y]
          try simp only [Act.put]
          try simp only [put_z]
          refine wpAnyH_take (i := 3) (v := ?_) rfl (by kernel_rfl) (by kernel_rfl) (by kernel_rfl) (fun _ _ _ h => h) (Or.inl ⟨by rfl, ?_⟩) (by assumption) ?_
          rotate_left
          · intro w hSw; (try dsimp only at hSw); go_simp; try with_reducible rfl
          try simp only [put_y]
          try simp only [Act.put]
          try simp only [put_z]
          refine wpAnyH_take (i := 4) (v := ?_) rfl (by kernel_rfl) (by kernel_rfl) (by kernel_rfl) (fun _ _ _ h => h) (Or.inl ⟨by rfl, ?_⟩) (by assumption) ?_
          rotate_left
          · intro w hSw; (try dsimp only at hSw); go_simp; try with_reducible rfl
          try simp only [put_y]
          try simp only [Act.put]
          try simp only [put_z]
          refine wpAnyH_take (i := 5) (v := ?_) rfl (by kernel_rfl) (by kernel_rfl) (by kernel_rfl) (fun _ _ _ h => h) (Or.inl ⟨by rfl, ?_⟩) (by assumption) ?_
          rotate_left
          · intro w hSw; (try dsimp only at hSw); go_simp; try with_reducible rfl
          try simp only [put_y]
          try simp only [Act.put]
          try simp only [put_z]
          refine wpAnyH_take (i := 6) (v := ?_) rfl (by kernel_rfl) (by kernel_rfl) (by kernel_rfl) (fun _ _ _ h => h) (Or.inl ⟨by rfl, ?_⟩) (by assumption) ?_
          rotate_left
          · intro w hSw; (try dsimp only at hSw); go_simp; try with_reducible rfl
          try simp only [put_y]
          try simp only [Act.put]
          try simp only [put_z]
          refine wpAnyH_ready (rs := [7]) (by kernel_rfl) (by simp) ?_
          refine AllReadyH.cons rfl (fun K hK => ?_) AllReadyH.nil
          go_simp
          refine C.out.mono ?_
          rintro e w2 ⟨rfl, y, hy, hy1, hy2, hk, hu⟩
          go_wp2_with fail
          have d6 := hy.cells.2.2.2.2.2.2
          rw [hk.left] at d6
          refine hK.out _ _ ?_ (fun hHeld => ?_)
          · exact d6
          clear hK K
          try simp only [put_y]
          try simp only [Act.put]
          try simp only [put_z]
          refine wpAnyH_take (i := 8) (v := ?_) rfl (by kernel_rfl) (by kernel_rfl) (by kernel_rfl) (fun _ _ _ h => h) (Or.inl ⟨by rfl, ?_⟩) (by assumption) ?_
          rotate_left
          · intro w hSw; (try dsimp only at hSw); go_simp; try with_reducible rfl
          try simp only [put_y]
          try simp only [Act.put]
          try simp only [put_z]
          refine wpAnyH_done (by kernel_rfl) ?_ _
          have hk2 : Keeps w1 p x y := ⟨hk.i, hk.why, hk.ea, hk.left, fun k q => (hk.own k q).imp_right (fun r => Nat.le_trans uD.size r)⟩
          have hu2 : Upd (x.own p) w1 w2 := (uD.mono (fun _ _ f => f.elim)).trans hu (fun _ _ h => h)
          have hv2 := HV2.out
          clear hHeld C CL
          go_wp2_with fail
          go_ret
          refine ⟨by rw [hv2]; rfl, y, hy, by rw [hv2]; exact hy1, hy2, hk2, hu2⟩
        | false =>
          have HV2 : Hid (varF [a, b] cc.toNat x.ms x.left = (0, x.ms)) := by show _ = _; rw [HV.out, if_neg (fun q => by cases q.2)]
          have H := Lib.hid h
          clear ha HV h
          go_enter Try.func66, Try.ntmps66
          go_wp2_with fail
          refine CL.out.mono ?_
          rintro e w1 ⟨rfl, rfl⟩
          go_wp2_with fail
          go_ret
          exact ⟨by rw [HV2.out]; rfl, x, H.out, by rw [HV2.out], rfl, Keeps.refl, Upd.refl⟩
      · have f0 : (((a.toNat : Nat) : Int) != ((cc.toNat : Nat) : Int)) = true := by simp; omega
        have HV2 : Hid (varF [a, b] cc.toNat x.ms x.left = (0, x.ms)) := by show _ = _; rw [HV.out, if_neg (fun q => ha q.1)]
        have H := Lib.hid h
        clear ha HV h
        go_enter Try.func66, Try.ntmps66
        go_wp2_with fail
        go_ret
        exact ⟨by rw [HV2.out]; rfl, x, H.out, by rw [HV2.out], rfl, Keeps.refl, Upd.refl⟩
  · have hv := varF_short h2 cc.toNat x.ms x.left
    have HV := Lib.hid hv
    have H := Lib.hid h
    obtain ⟨n, Hn⟩ := nm s.length
    rw [Hn.out] at hz hs h2
    have f0 : (((n : Nat) : Int) != 2) = true := by simp; omega
    obtain ⟨str, Hstr⟩ := nm (kstr s)
    rw [Hstr.out] at hz
    rw [Hstr.out]
    clear hv h
    go_enter Try.func66, Try.ntmps66
    go_wp2_with fail
    go_ret
    exact ⟨by rw [HV.out]; rfl, x, H.out, by rw [HV.out], rfl, Keeps.refl, Upd.refl⟩
end Go.Proofs.Ytblkgjdhaibhgaa
