/-
  The axioms' table, in memory and in plain terms.
  The axioms' table walked; Axiom, Axioms.
  Axiom walked.
-/
import Derived.Test.YtblkgjdhaibhgaaParP
import Derived.Test.YtblkgjdhaibhgaaParW
namespace Go.Proofs.Ytblkgjdhaibhgaa
open Go.RowKit

def axTx (x : Bs × Bs) : Bs := [114, 117, 108, 101, 32] ++ x.1 ++ [58, 32] ++ x.2 ++ [59]
theorem axiomF_eq (s : Bs) : axiomF s = match axL.find? (fun x => decide (x.1 = s)) with
    | none => none
    | some x => match parseG (fun _ => none) (axTx x) with
      | .ok [r] => some r
      | _ => none := by
  unfold axiomF axText
  cases h : axL.find? (fun x => decide (x.1 = s)) with
  | none => rfl
  | some x =>
    have := List.find?_some h
    simp only [decide_eq_true_eq] at this
    subst this
    rfl
def szB (r : Rl) : Bool := decide (r.l.size ≤ 1000000000000) && decide (r.r.size ≤ 1000000000000) && decide (r.conds.length ≤ 1000000000000) && decide (r.name.size ≤ 1000000000000000)
theorem ax_all : axL.all (fun x => match parseG (fun _ => none) (axTx x) with | .ok [r] => szB r | _ => false) = true := by decide +kernel
theorem ax_tok : axL.all (fun x => (goodT (toksF (axTx x))).all (fun t => !decide (t.1 = [97, 120, 105, 111, 109]))) = true := by decide +kernel
theorem ax_parse {x : Bs × Bs} (h : x ∈ axL) : ∃ r, parseG (fun _ => none) (axTx x) = .ok [r] ∧ RlSz r := by
  have h1 := List.all_eq_true.1 ax_all x h
  split at h1
  · rename_i r he
    simp only [szB, Bool.and_eq_true, decide_eq_true_eq] at h1
    exact ⟨r, he, h1.1.1.1, h1.1.1.2, h1.1.2, h1.2⟩
  · cases h1
theorem ax_none {x : Bs × Bs} (h : x ∈ axL) : ¬ ∃ i, tkF (goodT (toksF (axTx x))) i = some [97, 120, 105, 111, 109] := by
  rintro ⟨i, hi⟩
  have h1 := List.all_eq_true.1 ax_tok x h
  have hl := tkF_lt hi
  unfold tkF at hi
  rw [List.getElem?_eq_getElem hl] at hi
  have h2 := List.all_eq_true.1 h1 _ (List.getElem_mem hl)
  simp only [Option.map_some, Option.some.injEq] at hi
  rw [hi] at h2
  exact absurd h2 (by decide)
theorem ax_len : axL.all (fun x => decide (x.1.length ≤ 1000) && decide (x.2.length ≤ 1000)) = true := by decide +kernel
theorem ax_size {x : Bs × Bs} (h : x ∈ axL) : (kstr x.1).size ≤ 1000 ∧ (kstr x.2).size ≤ 1000 := by
  have h1 := List.all_eq_true.1 ax_len x h
  simp only [Bool.and_eq_true, decide_eq_true_eq] at h1
  rw [← kx_len, ← kx_len, kx_kstr, kx_kstr]
  exact h1
theorem axiomF_sz (s : Bs) (r : Rl) (h : axiomF s = some r) : RlSz r := by
  rw [axiomF_eq] at h
  split at h
  · cases h
  · rename_i x hx
    obtain ⟨r2, h1, h2⟩ := ax_parse (List.mem_of_find?_eq_some hx)
    rw [h1] at h
    injection h with h
    subst h
    exact h2
theorem find_take {x : Bs × Bs} {s : Bs} {l : List (Bs × Bs)} (hn : ∀ y ∈ l, ¬ y.1 = s) (hx : x.1 = s) (r : List (Bs × Bs)) : (l ++ x :: r).find? (fun x => decide (x.1 = s)) = some x := by
  rw [List.find?_append]
  have : l.find? (fun x => decide (x.1 = s)) = none := by
    rw [List.find?_eq_none]
    intro y hy
    simpa using hn y hy
  rw [this, List.find?_cons_of_pos (by simpa using hx)]
  rfl
def axCs : List Value := axL.flatMap fun x => [.string (kstr x.1), .string (kstr x.2)]
theorem axCs_get {i : Nat} (h : i < axL.length) : axCs[i * 2]? = some (.string (kstr axL[i].1)) ∧ axCs[i * 2 + 1]? = some (.string (kstr axL[i].2)) := by
  have : ∀ (l : List (Bs × Bs)) (i : Nat) (h : i < l.length), (l.flatMap fun x => [Value.string (kstr x.1), Value.string (kstr x.2)])[i * 2]? = some (.string (kstr l[i].1)) ∧ (l.flatMap fun x => [Value.string (kstr x.1), Value.string (kstr x.2)])[i * 2 + 1]? = some (.string (kstr l[i].2)) := by
    intro l
    induction l with
    | nil => intro i h; simp at h
    | cons x l ih =>
      intro i h
      cases i with
      | zero => exact ⟨rfl, rfl⟩
      | succ i =>
        have := ih i (by simpa using h)
        rw [show (i + 1) * 2 = i * 2 + 1 + 1 by omega]
        exact this
  exact this axL i h
end Go.Proofs.Ytblkgjdhaibhgaa

namespace Go.Proofs.Ytblkgjdhaibhgaa
open Go.RowKit

set_option maxRecDepth 100000 in
theorem raxioms_c (w : World) : Calls Try.prog 23 #[] w fun e w' => e = .returned (.slice (some ⟨w.heap.size, 0, none⟩) 22 22) ∧ Blk w' w.heap.size 49 axCs.toArray ∧ Upd Non w w' := by
  go_enter Try.func23, Try.ntmps23
  go_wp2_with fail
  go_ret
  exact ⟨rfl, Blk.new _ _ _, Upd.refl.alloc _⟩
end Go.Proofs.Ytblkgjdhaibhgaa

namespace Go.Proofs.Ytblkgjdhaibhgaa
open Go.RowKit

set_option maxRecDepth 100000 in
set_option maxHeartbeats 1000000 in
theorem rAxiom_c (s : Bs) (w : World) : Calls Try.prog 10 #[.string (kstr s)] w (AxP axiomF s w) := by
  have HX : Hid (axiomF s = match axL.find? (fun x => decide (x.1 = s)) with
    | none => none
    | some x => match parseG (fun _ => none) (axTx x) with
      | .ok [r] => some r
      | _ => none) := axiomF_eq s
  obtain ⟨W1, HW1⟩ := nm (w.alloc (.cells #[.string ⟨#[]⟩, .int .i64 0, .int .i64 0, .int .i64 0, .int .i64 0, .slice none 0 0, .int .i64 0, .int .i64 0, .int .i64 0, .int .i64 0, .slice none 0 0, .slice none 0 0, .int .i64 0, .int .i64 0] 33))
  have e1 := HW1.out
  have u1 : Upd Non w W1 := by rw [← e1]; exact Upd.refl.alloc _
  have b1 : Blk W1 w.heap.size 33 z14 := by rw [← e1]; exact Blk.new _ _ _
  have s1 : W1.heap.size = w.heap.size + 1 := by rw [← e1]; simp
  have CA := Lib.hid (raxioms_c W1)
  rw [s1] at CA
  obtain ⟨qs, Hqs⟩ := nm (kstr s)
  rw [Hqs.out]
  have HB1 := Lib.hid b1
  have HU1 := Lib.hid u1
  clear u1 b1 s1
  go_enter Try.func10, Try.ntmps10
  go_wp2_with fail
  refine CA.out.mono ?_
  rintro e w2 ⟨rfl, hbt, hu2⟩
  have HT := Lib.hid hbt
  have HB2 := Lib.hid (HB1.out.upd hu2 (fun f => f))
  have HU2 := Lib.hid (HU1.out.then_non hu2)
  clear hbt hu2 CA HB1 HU1 e1
  go_wp2_with fail
  go_loopg [5, 6, 7, 10] 22 (fun g _ _ _ iv wr => ∃ j : Nat, Hid (g = 22 - j) ∧ j ≤ 22 ∧ iv = .int .i64 j ∧ Hid (Upd Non w2 wr) ∧ Hid (∀ x ∈ axL.take j, ¬ x.1 = s))
  case atStart => exact ⟨0, rfl, Nat.zero_le _, rfl, Upd.refl, fun x hx => by simp at hx⟩
  case round =>
    obtain ⟨j, Hg, hj, rfl, HU, HN⟩ := hrel
    have hb := HT.out.upd HU.out (fun f => f)
    have hr := HB2.out.upd HU.out (fun f => f)
    have HR := Lib.hid hr
    have hUw := HU2.out.then_non HU.out
    have HUW := Lib.hid hUw
    clear hUw
    by_cases hlt : j < 22
    · have hal : j < axL.length := hlt
      obtain ⟨k0, k1⟩ := axCs_get hal
      have c0 : wr.cell? ⟨w.heap.size + 1, j * 2, none⟩ = some (.string (kstr axL[j].1)) := by rw [hb.cell]; simpa using k0
      have c1 : wr.cell? ⟨w.heap.size + 1, j * 2 + 1, none⟩ = some (.string (kstr axL[j].2)) := by rw [hb.cell]; simpa using k1
      have HM : Hid (axL[j] ∈ axL) := List.getElem_mem hal
      have HDR : Hid (axL = axL.take j ++ axL[j] :: axL.drop (j + 1)) := by
        show axL = _
        rw [← List.drop_eq_getElem_cons hal, List.take_append_drop]
      have HTK : Hid (axL.take (j + 1) = axL.take j ++ [axL[j]]) := take_snoc' hal
      generalize axL[j] = xx at *
      obtain ⟨D, HD⟩ := nm (decide (xx.1 = s))
      have hD : ((kstr xx.1).toList == qs.toList) = D := by rw [← Hqs.out, str_beq, HD.out]
      obtain ⟨qa, Hqa⟩ := nm (kstr xx.1)
      obtain ⟨qb, Hqb⟩ := nm (kstr xx.2)
      rw [Hqa.out] at c0 hD
      rw [Hqb.out] at c1
      clear k0 k1 hb hr
      cases D with
      | false =>
        go_wp2_with fail
        go_roundg (22 - (j + 1))
        case measure => rw [Hg.out]; omega
        case rel =>
          refine ⟨j + 1, rfl, by omega, by go_num, HU.out.then_non (Upd.refl.alloc _), fun y hy => ?_⟩
          rw [HTK.out] at hy
          rcases List.mem_append.1 hy with hy | hy
          · exact HN.out y hy
          · rw [List.mem_singleton] at hy; subst hy; exact of_decide_eq_false HD.out
      | true =>
        obtain ⟨rl, hpr, hsz⟩ := ax_parse HM.out
        obtain ⟨la, lb⟩ := ax_size HM.out
        rw [Hqa.out] at la
        rw [Hqb.out] at lb
        have hkx : kx (((({ data := #[114, 117, 108, 101, 32] } : ByteArray) ++ qa) ++ { data := #[58, 32] }) ++ qb ++ { data := #[59] }) = axTx xx := by
          rw [← Hqa.out, ← Hqb.out]
          simp [kx, kstr, axTx]
        obtain ⟨W3, HW3⟩ := nm (wr.alloc (.cells #[.string qa, .string qb] 49))
        have CP := Lib.hid (rParse_c (fun _ => none) (fun _ _ q => by cases q) (((({ data := #[114, 117, 108, 101, 32] } : ByteArray) ++ qa) ++ { data := #[58, 32] }) ++ qb ++ { data := #[59] }) (fun q => by rw [hkx] at q; exact absurd q (ax_none HM.out)) W3)
        rw [hkx, hpr] at CP
        have e3 := HW3.out
        have HPR := Lib.hid hpr
        have u3 : Upd Non wr W3 := by rw [← e3]; exact Upd.refl.alloc _
        have HU3 := Lib.hid (HUW.out.then_non u3)
        have HR3 := Lib.hid (HR.out.upd u3 (fun f => f))
        have b3 : Blk W3 wr.heap.size 49 #[.string qa, .string qb] := by rw [← e3]; exact Blk.new _ _ _
        have z0 := b3.cell 0
        have z1 := b3.cell 1
        clear hkx hpr u3 hsz b3
        go_wp2_with fail
        refine CP.out.mono ?_
        rintro e w4 ⟨hu4, h⟩
        rcases h with ⟨er, h, _⟩ | ⟨Q, A, c, h, rfl, hv, hle⟩
        · cases h
        injection h with h
        subst h
        obtain ⟨b, o, a, rfl, _, hb4, hat, hrk⟩ := hv.at_ (i := 0) (by simp)
        unfold RlAt at hat
        rw [List.getElem_cons_zero, Nat.zero_mul, Nat.add_zero] at hat
        rw [List.getElem_cons_zero] at hrk
        obtain ⟨x0, x1, x2, x3, x4, x5, x6, x7, x8, x9, x10, x11, x12, x13⟩ := hat
        have b0 := HR3.out.upd hu4 (fun f => f)
        have hbl := b0.lt
        unfold z14 at b0
        have z0 := b0.cell 0
        have z1 := b0.cell 1
        have z2 := b0.cell 2
        have z3 := b0.cell 3
        have z4 := b0.cell 4
        have z5 := b0.cell 5
        have z6 := b0.cell 6
        have z7 := b0.cell 7
        have z8 := b0.cell 8
        have z9 := b0.cell 9
        have z10 := b0.cell 10
        have z11 := b0.cell 11
        have z12 := b0.cell 12
        have z13 := b0.cell 13
        have zf := b0.frozen
        have HRK := Lib.hid hrk
        have HU4 := Lib.hid (HU3.out.then_non hu4)
        have hle3 := HU3.out.size
        have hlw3 := HR3.out.lt
        clear hv hle hrk hu4 CP e3
        go_wp2_with fail
        rw [set14_eq]
        obtain ⟨W8, HW8⟩ := nm (set14 w4 w.heap.size (.string rl.name) (.int .i64 rl.l.v) (.int .i64 rl.l.op) (.int .i64 rl.l.imm) (.int .i64 rl.l.iv) (.slice a.la rl.l.kids.length a.lc) (.int .i64 rl.r.v) (.int .i64 rl.r.op) (.int .i64 rl.r.imm) (.int .i64 rl.r.iv) (.slice a.ra rl.r.kids.length a.rc) (.slice a.ca rl.conds.length a.cc) (.int .i64 rl.vars) (.int .i64 rl.imms))
        rw [HW8.out]
        have us : Upd (· = w.heap.size) w4 W8 := by rw [← HW8.out]; exact set14_upd _ _ _ _ _ _ _ _ _ _ _ _ _ _ _ _
        have b5 : Blk W8 w.heap.size 33 (rlCells rl a) := by rw [← HW8.out]; exact set14_blk b0 _ _ _ _ _ _ _ _ _ _ _ _ _ _
        have ua : Upd Non W8 (W8.alloc (.cells #[.int .i64 0, .int .i64 0] 25)) := Upd.refl.alloc _
        refine bodyPost_ret (results_cell_row_tmp rfl _ _ w.heap.size 33 _ (0, 0) _ rfl (b5.upd ua (fun f => f)) Try.underlying33 rfl (by kernel_rfl)) rfl ?_
        refine ⟨rl, a, true, rfl, ?_, (HU4.out.trans us (fun k hk e => by omega)).then_non ua, fun _ => ?_, fun q => (by cases q)⟩
        · exact ((HRK.out.upd us (fun k _ q e => by have := q; omega)).upd ua (fun _ _ _ f => f)).mono (fun k _ q => Nat.le_trans hle3 q)
        · rw [HX.out, HDR.out, find_take HN.out (of_decide_eq_true HD.out)]
          dsimp only
          rw [HPR.out]
    · obtain rfl : j = 22 := by omega
      clear hb
      unfold z14 at hr
      have z0 := hr.cell 0
      have z1 := hr.cell 1
      have z2 := hr.cell 2
      have z3 := hr.cell 3
      have z4 := hr.cell 4
      have z5 := hr.cell 5
      have z6 := hr.cell 6
      have z7 := hr.cell 7
      have z8 := hr.cell 8
      have z9 := hr.cell 9
      have z10 := hr.cell 10
      have z11 := hr.cell 11
      have z12 := hr.cell 12
      have z13 := hr.cell 13
      have zf := hr.frozen
      go_wp2_with fail
      rw [set14_eq]
      have us := set14_upd wr w.heap.size (.string ⟨#[]⟩) (.int .i64 0) (.int .i64 0) (.int .i64 0) (.int .i64 0) (.slice none 0 0) (.int .i64 0) (.int .i64 0) (.int .i64 0) (.int .i64 0) (.slice none 0 0) (.slice none 0 0) (.int .i64 0) (.int .i64 0)
      have b5 := set14_blk HR.out (.string ⟨#[]⟩) (.int .i64 0) (.int .i64 0) (.int .i64 0) (.int .i64 0) (.slice none 0 0) (.int .i64 0) (.int .i64 0) (.int .i64 0) (.int .i64 0) (.slice none 0 0) (.slice none 0 0) (.int .i64 0) (.int .i64 0)
      refine bodyPost_ret (results_cell_row_tmp rfl _ _ w.heap.size 33 _ (0, 0) _ rfl b5 Try.underlying33 rfl (by kernel_rfl)) rfl ?_
      refine ⟨⟨⟨#[]⟩, .mk 0 0 0 0 [], .mk 0 0 0 0 [], [], 0, 0⟩, ⟨none, 0, none, 0, none, 0⟩, false, rfl, ⟨PtK.leaf, PtK.leaf, CondsV.nil, Nat.le_refl _⟩, HUW.out.trans us (fun k hk e => by omega), fun q => (by cases q), fun _ => ?_⟩
      rw [HX.out, List.find?_eq_none.2]
      intro y hy
      simpa using HN.out y (by rw [List.take_of_length_le (show axL.length ≤ 22 from Nat.le_refl _)]; exact hy)
end Go.Proofs.Ytblkgjdhaibhgaa
