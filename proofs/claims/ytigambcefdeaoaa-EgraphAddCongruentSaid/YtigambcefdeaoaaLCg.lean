/-
  What fullinglaw12.congruent does: it compares two nodes by a graph's Find.
-/
import Derived.Test.YtigambcefdeaoaaGCls2
import Derived.Test.YtigambcefdeaoaaDrawn
namespace Go.Proofs.Ytigambcefdeaoaa
open Go.RowKit

def cgD (c : Nat → Nat) (oa ia ob ib : Int) (ka kb : List Int) : Bool := decide (oa = ob ∧ ia = ib ∧ ckids c ka = ckids c kb)

set_option maxRecDepth 100000 in
set_option maxHeartbeats 2000000 in
theorem lCongruent_c (w : World) (P : Nat → Prop) (gb : Nat) (G : EG) (h : FG P w gb G) (oa ia ob ib : Int) (ka kb : List Int) (KA KB : Option Addr) (ca cb : Nat) (F F2 : Nat → Prop) (hka : Ints w F KA ka) (hkb : Ints w F2 KB kb) (hna : ka.length ≤ 100000000000)
    (oka : okKids G.L.length ka = true) (okb : okKids G.L.length kb = true) :
    Calls Try.prog 21 #[gp gb, .agg #[.int .i64 oa, .int .i64 ia, .slice KA ka.length ca], .agg #[.int .i64 ob, .int .i64 ib, .slice KB kb.length cb]] w fun e w' => e = .returned (.bool (cgD G.c oa ia ob ib ka kb)) ∧ Upd Non w w' := by
  obtain ⟨W, HW⟩ := nm ((w.alloc (.cells #[.int .i64 oa, .int .i64 ia, .slice KA ka.length ca] 24)).alloc (.cells #[.int .i64 ob, .int .i64 ib, .slice KB kb.length cb] 24))
  have hU : Upd Non w W := by rw [← HW.out]; exact (Upd.refl.alloc _).alloc _
  have b1 : Blk W w.heap.size 24 #[.int .i64 oa, .int .i64 ia, .slice KA ka.length ca] := by rw [← HW.out]; exact (Blk.new w _ _).alloc _
  have b2 : Blk W (w.heap.size + 1) 24 #[.int .i64 ob, .int .i64 ib, .slice KB kb.length cb] := by rw [← HW.out]; exact Blk.new' (by simp)
  have hkaW := hka.upd hU (fun _ _ _ f => f)
  have hkbW := hkb.upd hU (fun _ _ _ f => f)
  have hM := h.non hU
  have d0 := b1.cell 0
  have d1 := b1.cell 1
  have d2 := b1.cell 2
  have f0 := b2.cell 0
  have f1 := b2.cell 1
  have f2 := b2.cell 2
  have e0 := HW.out
  have HA := Lib.hid oka
  have HB := Lib.hid okb
  clear oka okb hka hkb h b1 b2
  unfold gp
  by_cases ho : oa = ob
  · subst ho
    have t1 : (oa != oa) = false := by simp
    by_cases hi : ia = ib
    · subst hi
      have t2 : (ia != ia) = false := by simp
      by_cases hne : ka.length = kb.length
      · have hkl : kb.length ≤ 100000000000 := by omega
        have HN := Lib.hid hne
        have t3 : ((ka.length : Int) != (kb.length : Int)) = false := by simp [hne]
        clear hne
        go_enter Try.func21, Try.ntmps21
        go_wp2_with fail
        go_loopg [7, 32] ka.length (fun g _ i wr => ∃ k n : Nat, Hid (g = ka.length - k) ∧ k ≤ ka.length ∧ i = .int .i64 k ∧ Hid (ckids G.c (ka.take k) = ckids G.c (kb.take k)) ∧ wr = W.drewN n)
        case atStart => exact ⟨0, 0, rfl, by omega, rfl, rfl, rfl⟩
        case round =>
          obtain ⟨k, n, Hg, hk, rfl, Hp, rfl⟩ := hrel
          by_cases hlt : k < ka.length
          · have hlt2 : k < kb.length := by rw [← HN.out]; exact hlt
            obtain ⟨xb, xo, rfl, _, hxb, hx⟩ := hkaW.at_ hlt
            obtain ⟨yb, yo, rfl, _, hyb, hy⟩ := hkbW.at_ hlt2
            have HT := Lib.hid (ckids_take G.c ka k hlt)
            have HT2 := Lib.hid (ckids_take G.c kb k hlt2)
            have HNE : Hid (G.c ka[k].toNat ≠ G.c kb[k].toNat → cgD G.c oa ia oa ia ka kb = false) := by
              intro h; unfold cgD; rw [decide_eq_false_iff_not]; rintro ⟨_, _, he⟩; exact h (ckids_at he hlt hlt2)
            obtain ⟨x0, x1⟩ := okKids_get HA.out hlt
            obtain ⟨y0, y1⟩ := okKids_get HB.out hlt2
            have HX : Hid (findF G ka[k] = (G.c ka[k].toNat : Int)) := by show _ = _; unfold findF; rw [if_pos ⟨x0, x1⟩]
            have HY : Hid (findF G kb[k] = (G.c kb[k].toNat : Int)) := by show _ = _; unfold findF; rw [if_pos ⟨y0, y1⟩]
            have CX := Lib.hid (fun (z : Int) (w2 : World) (u : Upd Non W w2) => fFind_c w2 P gb G (hM.non u) z)
            unfold gp at CX
            generalize ka[k] = x at *
            generalize kb[k] = y at *
            clear x0 x1 y0 y1
            obtain ⟨p, Hp1⟩ := nm (G.c x.toNat)
            obtain ⟨q, Hq1⟩ := nm (G.c y.toNat)
            rw [Hp1.out] at HX HT HNE
            rw [Hq1.out] at HY HT2 HNE
            have i0 : (0 : Int) ≤ (k : Int) := by omega
            have i1 : (k : Int) < (ka.length : Int) := by omega
            have i2 : (k : Int) < (kb.length : Int) := by omega
            have s1 : (W.drewN n).drew.cell? ⟨w.heap.size, 2, none⟩ = some (.slice (some ⟨xb, xo, none⟩) ka.length ca) := d2
            have s2 : (W.drewN n).drew.cell? ⟨w.heap.size + 1, 2, none⟩ = some (.slice (some ⟨yb, yo, none⟩) kb.length cb) := f2
            have s3 : (W.drewN n).drew.cell? ⟨xb, xo + k, none⟩ = some (.int .i64 x) := hx
            have s4 : (W.drewN n).drew.cell? ⟨yb, yo + k, none⟩ = some (.int .i64 y) := hy
            have s5 : Upd Non W (W.drewN n).drew := (Upd.refl.drewN n).drew
            by_cases he : p = q
            · subst he
              have t4 : ((p : Int) != (p : Int)) = false := by simp
              clear HNE
              go_wp2_with fail
              refine wp_region_held_drew (S := fun w' => Upd Non W w' ∧ w'.cell? ⟨w.heap.size, 2, none⟩ = some (.slice (some ⟨xb, xo, none⟩) ka.length ca) ∧ w'.cell? ⟨w.heap.size + 1, 2, none⟩ = some (.slice (some ⟨yb, yo, none⟩) kb.length cb) ∧ w'.cell? ⟨xb, xo + k, none⟩ = some (.int .i64 x) ∧ w'.cell? ⟨yb, yo + k, none⟩ = some (.int .i64 y)) (by kernel_rfl) ⟨s5, s1, s2, s3, s4⟩ (fun hHeld => ?_)
              refine wpAnyH_take (i := 0) (v := ?_) rfl (by kernel_rfl) (by kernel_rfl) (by kernel_rfl) (fun _ _ _ h => h) (Or.inl ⟨by rfl, ?_⟩) (by assumption) ?_
              rotate_left
              · intro w hSw; (try dsimp only at hSw); go_simp; try with_reducible rfl
              try simp only [put_y]
              try simp only [Act.put]
              try simp only [put_z]
              refine wpAnyH_take (i := 1) (v := ?_) rfl (by kernel_rfl) (by kernel_rfl) (by kernel_rfl) (fun _ _ _ h => h) (Or.inl ⟨by rfl, ?_⟩) (by assumption) ?_
              rotate_left
              · intro w hSw; (try dsimp only at hSw); go_simp; try with_reducible rfl
              try simp only [put_y]
              try simp only [Act.put]
              try simp only [put_z]
              refine wpAnyH_take (i := 2) (v := ?_) rfl (by kernel_rfl) (by kernel_rfl) (by kernel_rfl) (fun _ _ _ h => h) (Or.inl ⟨by rfl, ?_⟩) (by assumption) ?_
              rotate_left
              · intro w hSw; (try dsimp only at hSw); go_simp; try with_reducible rfl
              try simp only [put_y]
              try simp only [Act.put]
              try simp only [put_z]
              refine wpAnyH_take (i := 3) (v := ?_) rfl (by kernel_rfl) (by kernel_rfl) (by kernel_rfl) (fun _ _ _ h => h) (Or.inl ⟨by rfl, ?_⟩) (by assumption) ?_
              rotate_left
              · intro w hSw; (try dsimp only at hSw); go_simp; try with_reducible rfl
              try simp only [put_y]
              try simp only [Act.put]
              try simp only [put_z]
              refine wpAnyH_take (i := 4) (v := ?_) rfl (by kernel_rfl) (by kernel_rfl) (by kernel_rfl) (fun _ _ _ h => h) (Or.inl ⟨by rfl, ?_⟩) (by assumption) ?_
              rotate_left
              · intro w hSw; (try dsimp only at hSw); go_simp; try with_reducible rfl
              try simp only [put_y]
              try simp only [Act.put]
              try simp only [put_z]
              refine wpAnyH_take (i := 5) (v := ?_) rfl (by kernel_rfl) (by kernel_rfl) (by kernel_rfl) (fun _ _ _ h => h) (Or.inl ⟨by rfl, ?_⟩) (by assumption) ?_
              rotate_left
              · intro w hSw; (try dsimp only at hSw); go_simp; try with_reducible rfl
              try simp only [put_y]
              try simp only [Act.put]
              try simp only [put_z]
              refine wpAnyH_takeC (i := 6) (v := ?v1) rfl (by kernel_rfl) (by kernel_rfl) (by kernel_rfl) (fun _ _ _ h => h) ⟨by rfl, ?f1, ?a1, ?r1, ?c1⟩ (by assumption) ?m1
              case r1 => intro w; go_simp; constructor <;> with_reducible rfl
              case c1 => intro W hSw; refine (CX.out x W hSw.1).mono ?_; rintro e w' ⟨rfl, rfl⟩; constructor <;> with_reducible rfl
              try simp only [put_y]
              try simp only [Act.put]
              try simp only [put_z]
              refine wpAnyH_take (i := 7) (v := ?_) rfl (by kernel_rfl) (by kernel_rfl) (by kernel_rfl) (fun _ _ _ h => h) (Or.inl ⟨by rfl, ?_⟩) (by assumption) ?_
              rotate_left
              · intro w hSw; (try dsimp only at hSw); go_simp; try with_reducible rfl
              try simp only [put_y]
              try simp only [Act.put]
              try simp only [put_z]
              refine wpAnyH_take (i := 8) (v := ?_) rfl (by kernel_rfl) (by kernel_rfl) (by kernel_rfl) (fun _ _ _ h => h) (Or.inl ⟨by rfl, ?_⟩) (by assumption) ?_
              rotate_left
              · intro w hSw; (try dsimp only at hSw); go_simp; try with_reducible rfl
              try simp only [put_y]
              try simp only [Act.put]
              try simp only [put_z]
              refine wpAnyH_take (i := 9) (v := ?_) rfl (by kernel_rfl) (by kernel_rfl) (by kernel_rfl) (fun _ _ _ h => h) (Or.inl ⟨by rfl, ?_⟩) (by assumption) ?_
              rotate_left
              · intro w hSw; (try dsimp only at hSw); go_simp; try with_reducible rfl
              try simp only [put_y]
              try simp only [Act.put]
              try simp only [put_z]
              refine wpAnyH_take (i := 10) (v := ?_) rfl (by kernel_rfl) (by kernel_rfl) (by kernel_rfl) (fun _ _ _ h => h) (Or.inl ⟨by rfl, ?_⟩) (by assumption) ?_
              rotate_left
              · intro w hSw; (try dsimp only at hSw); go_simp; try with_reducible rfl
              try simp only [put_y]
              try simp only [Act.put]
              try simp only [put_z]
              refine wpAnyH_take (i := 11) (v := ?_) rfl (by kernel_rfl) (by kernel_rfl) (by kernel_rfl) (fun _ _ _ h => h) (Or.inl ⟨by rfl, ?_⟩) (by assumption) ?_
              rotate_left
              · intro w hSw; (try dsimp only at hSw); go_simp; try with_reducible rfl
              try simp only [put_y]
              try simp only [Act.put]
              try simp only [put_z]
              refine wpAnyH_take (i := 12) (v := ?_) rfl (by kernel_rfl) (by kernel_rfl) (by kernel_rfl) (fun _ _ _ h => h) (Or.inl ⟨by rfl, ?_⟩) (by assumption) ?_
              rotate_left
              · intro w hSw; (try dsimp only at hSw); go_simp; try with_reducible rfl
              try simp only [put_y]
              try simp only [Act.put]
              try simp only [put_z]
              refine wpAnyH_takeC (i := 13) (v := ?v2) rfl (by kernel_rfl) (by kernel_rfl) (by kernel_rfl) (fun _ _ _ h => h) ⟨by rfl, ?f2, ?a2, ?r2, ?c2⟩ (by assumption) ?m2
              case r2 => intro w; go_simp; constructor <;> with_reducible rfl
              case c2 => intro W hSw; refine (CX.out y W hSw.1).mono ?_; rintro e w' ⟨rfl, rfl⟩; constructor <;> with_reducible rfl
              try simp only [put_y]
              try simp only [Act.put]
              try simp only [put_z]
              rw [HX.out, HY.out]
              refine wpAnyH_take (i := 14) (v := ?_) rfl (by kernel_rfl) (by kernel_rfl) (by kernel_rfl) (fun _ _ _ h => h) (Or.inl ⟨by rfl, ?_⟩) (by assumption) ?_
              rotate_left
              · intro w hSw; (try dsimp only at hSw); go_simp; try with_reducible rfl
              try simp only [put_y]
              try simp only [Act.put]
              try simp only [put_z]
              refine wpAnyH_done (by kernel_rfl) ?_ _
              go_wp2_with fail
              go_roundg (ka.length - (k + 1))
              case measure => rw [Hg.out]; omega
              case rel => exact ⟨k + 1, n + 1, rfl, by omega, by go_num, by show _ = _; rw [HT.out, HT2.out, Hp.out], rfl⟩
            · have hf := Lib.hid (HNE.out he)
              have t4 : ((p : Int) != (q : Int)) = true := by simp; omega
              clear he HNE
              go_wp2_with fail
              refine wp_region_held_drew (S := fun w' => Upd Non W w' ∧ w'.cell? ⟨w.heap.size, 2, none⟩ = some (.slice (some ⟨xb, xo, none⟩) ka.length ca) ∧ w'.cell? ⟨w.heap.size + 1, 2, none⟩ = some (.slice (some ⟨yb, yo, none⟩) kb.length cb) ∧ w'.cell? ⟨xb, xo + k, none⟩ = some (.int .i64 x) ∧ w'.cell? ⟨yb, yo + k, none⟩ = some (.int .i64 y)) (by kernel_rfl) ⟨s5, s1, s2, s3, s4⟩ (fun hHeld => ?_)
              refine wpAnyH_take (i := 0) (v := ?_) rfl (by kernel_rfl) (by kernel_rfl) (by kernel_rfl) (fun _ _ _ h => h) (Or.inl ⟨by rfl, ?_⟩) (by assumption) ?_
              rotate_left
              · intro w hSw; (try dsimp only at hSw); go_simp; try with_reducible rfl
              try simp only [put_y]
              try simp only [Act.put]
              try simp only [put_z]
              refine wpAnyH_take (i := 1) (v := ?_) rfl (by kernel_rfl) (by kernel_rfl) (by kernel_rfl) (fun _ _ _ h => h) (Or.inl ⟨by rfl, ?_⟩) (by assumption) ?_
              rotate_left
              · intro w hSw; (try dsimp only at hSw); go_simp; try with_reducible rfl
              try simp only [put_y]
              try simp only [Act.put]
              try simp only [put_z]
              refine wpAnyH_take (i := 2) (v := ?_) rfl (by kernel_rfl) (by kernel_rfl) (by kernel_rfl) (fun _ _ _ h => h) (Or.inl ⟨by rfl, ?_⟩) (by assumption) ?_
              rotate_left
              · intro w hSw; (try dsimp only at hSw); go_simp; try with_reducible rfl
              try simp only [put_y]
              try simp only [Act.put]
              try simp only [put_z]
              refine wpAnyH_take (i := 3) (v := ?_) rfl (by kernel_rfl) (by kernel_rfl) (by kernel_rfl) (fun _ _ _ h => h) (Or.inl ⟨by rfl, ?_⟩) (by assumption) ?_
              rotate_left
              · intro w hSw; (try dsimp only at hSw); go_simp; try with_reducible rfl
              try simp only [put_y]
              try simp only [Act.put]
              try simp only [put_z]
              refine wpAnyH_take (i := 4) (v := ?_) rfl (by kernel_rfl) (by kernel_rfl) (by kernel_rfl) (fun _ _ _ h => h) (Or.inl ⟨by rfl, ?_⟩) (by assumption) ?_
              rotate_left
              · intro w hSw; (try dsimp only at hSw); go_simp; try with_reducible rfl
              try simp only [put_y]
              try simp only [Act.put]
              try simp only [put_z]
              refine wpAnyH_take (i := 5) (v := ?_) rfl (by kernel_rfl) (by kernel_rfl) (by kernel_rfl) (fun _ _ _ h => h) (Or.inl ⟨by rfl, ?_⟩) (by assumption) ?_
              rotate_left
              · intro w hSw; (try dsimp only at hSw); go_simp; try with_reducible rfl
              try simp only [put_y]
              try simp only [Act.put]
              try simp only [put_z]
              refine wpAnyH_takeC (i := 6) (v := ?v3) rfl (by kernel_rfl) (by kernel_rfl) (by kernel_rfl) (fun _ _ _ h => h) ⟨by rfl, ?f3, ?a3, ?r3, ?c3⟩ (by assumption) ?m3
              case r3 => intro w; go_simp; constructor <;> with_reducible rfl
              case c3 => intro W hSw; refine (CX.out x W hSw.1).mono ?_; rintro e w' ⟨rfl, rfl⟩; constructor <;> with_reducible rfl
              try simp only [put_y]
              try simp only [Act.put]
              try simp only [put_z]
              refine wpAnyH_take (i := 7) (v := ?_) rfl (by kernel_rfl) (by kernel_rfl) (by kernel_rfl) (fun _ _ _ h => h) (Or.inl ⟨by rfl, ?_⟩) (by assumption) ?_
              rotate_left
              · intro w hSw; (try dsimp only at hSw); go_simp; try with_reducible rfl
              try simp only [put_y]
              try simp only [Act.put]
              try simp only [put_z]
              refine wpAnyH_take (i := 8) (v := ?_) rfl (by kernel_rfl) (by kernel_rfl) (by kernel_rfl) (fun _ _ _ h => h) (Or.inl ⟨by rfl, ?_⟩) (by assumption) ?_
              rotate_left
              · intro w hSw; (try dsimp only at hSw); go_simp; try with_reducible rfl
              try simp only [put_y]
              try simp only [Act.put]
              try simp only [put_z]
              refine wpAnyH_take (i := 9) (v := ?_) rfl (by kernel_rfl) (by kernel_rfl) (by kernel_rfl) (fun _ _ _ h => h) (Or.inl ⟨by rfl, ?_⟩) (by assumption) ?_
              rotate_left
              · intro w hSw; (try dsimp only at hSw); go_simp; try with_reducible rfl
              try simp only [put_y]
              try simp only [Act.put]
              try simp only [put_z]
              refine wpAnyH_take (i := 10) (v := ?_) rfl (by kernel_rfl) (by kernel_rfl) (by kernel_rfl) (fun _ _ _ h => h) (Or.inl ⟨by rfl, ?_⟩) (by assumption) ?_
              rotate_left
              · intro w hSw; (try dsimp only at hSw); go_simp; try with_reducible rfl
              try simp only [put_y]
              try simp only [Act.put]
              try simp only [put_z]
              refine wpAnyH_take (i := 11) (v := ?_) rfl (by kernel_rfl) (by kernel_rfl) (by kernel_rfl) (fun _ _ _ h => h) (Or.inl ⟨by rfl, ?_⟩) (by assumption) ?_
              rotate_left
              · intro w hSw; (try dsimp only at hSw); go_simp; try with_reducible rfl
              try simp only [put_y]
              try simp only [Act.put]
              try simp only [put_z]
              refine wpAnyH_take (i := 12) (v := ?_) rfl (by kernel_rfl) (by kernel_rfl) (by kernel_rfl) (fun _ _ _ h => h) (Or.inl ⟨by rfl, ?_⟩) (by assumption) ?_
              rotate_left
              · intro w hSw; (try dsimp only at hSw); go_simp; try with_reducible rfl
              try simp only [put_y]
              try simp only [Act.put]
              try simp only [put_z]
              refine wpAnyH_takeC (i := 13) (v := ?v4) rfl (by kernel_rfl) (by kernel_rfl) (by kernel_rfl) (fun _ _ _ h => h) ⟨by rfl, ?f4, ?a4, ?r4, ?c4⟩ (by assumption) ?m4
              case r4 => intro w; go_simp; constructor <;> with_reducible rfl
              case c4 => intro W hSw; refine (CX.out y W hSw.1).mono ?_; rintro e w' ⟨rfl, rfl⟩; constructor <;> with_reducible rfl
              try simp only [put_y]
              try simp only [Act.put]
              try simp only [put_z]
              rw [HX.out, HY.out]
              refine wpAnyH_take (i := 14) (v := ?_) rfl (by kernel_rfl) (by kernel_rfl) (by kernel_rfl) (fun _ _ _ h => h) (Or.inl ⟨by rfl, ?_⟩) (by assumption) ?_
              rotate_left
              · intro w hSw; (try dsimp only at hSw); go_simp; try with_reducible rfl
              try simp only [put_y]
              try simp only [Act.put]
              try simp only [put_z]
              refine wpAnyH_done (by kernel_rfl) ?_ _
              go_wp2_with fail
              go_ret
              exact ⟨by rw [hf.out]; rfl, (hU.drewN _).drew⟩
          · obtain rfl : ka.length = k := by omega
            have hf : Hid (cgD G.c oa ia oa ia ka kb = true) := by
              have := Hp.out
              rw [List.take_length, HN.out, List.take_length] at this
              exact decide_eq_true ⟨rfl, rfl, this⟩
            go_wp2_with fail
            go_ret
            exact ⟨by rw [hf.out]; rfl, hU.drewN _⟩
      · have HD : Hid (cgD G.c oa ia oa ia ka kb = false) := by
          show _ = _
          unfold cgD
          rw [decide_eq_false_iff_not]
          rintro ⟨_, _, he⟩
          have := congrArg List.length he
          simp [ckids] at this
          exact hne this
        have t3 : ((ka.length : Int) != (kb.length : Int)) = true := by simp; omega
        clear hne hM
        go_enter Try.func21, Try.ntmps21
        go_wp2_with fail
        go_ret
        exact ⟨by rw [HD.out]; rfl, hU⟩
    · have HD : Hid (cgD G.c oa ia oa ib ka kb = false) := by show _ = _; unfold cgD; rw [decide_eq_false_iff_not]; rintro ⟨_, h, _⟩; exact hi h
      have t2 : (ia != ib) = true := by simp; exact hi
      clear hi hM
      go_enter Try.func21, Try.ntmps21
      go_wp2_with fail
      go_ret
      exact ⟨by rw [HD.out]; rfl, hU⟩
  · have HD : Hid (cgD G.c oa ia ob ib ka kb = false) := by show _ = _; unfold cgD; rw [decide_eq_false_iff_not]; rintro ⟨h, _, _⟩; exact ho h
    have t1 : (oa != ob) = true := by simp; exact ho
    clear ho hM
    go_enter Try.func21, Try.ntmps21
    go_wp2_with fail
    go_ret
    exact ⟨by rw [HD.out]; rfl, hU⟩
end Go.Proofs.Ytigambcefdeaoaa
