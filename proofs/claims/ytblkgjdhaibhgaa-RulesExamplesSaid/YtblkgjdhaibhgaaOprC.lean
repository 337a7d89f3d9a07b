/-
  What the reader's operation does: it reads an operation with its immediate operand.
-/
import Derived.Test.YtblkgjdhaibhgaaOpC
import Derived.Test.YtblkgjdhaibhgaaRdrV
namespace Go.Proofs.Ytblkgjdhaibhgaa
open Go.RowKit

/-- Where the dot is, or the end. -/
def dotF (s : Bs) : Nat := (s.takeWhile (fun c => decide (c.toNat ≠ 46))).length
theorem dot_step {s : Bs} {k : Nat} (h : k < s.length) : dotF (s.drop k) = if (s.getD k 0).toNat = 46 then 0 else dotF (s.drop (k + 1)) + 1 := by
  rw [drop_cons h]
  unfold dotF
  rw [List.takeWhile_cons]
  generalize s.getD k 0 = ch
  by_cases e : ch.toNat = 46
  · rw [if_pos e, if_neg (by simp [e])]; rfl
  · rw [if_neg e, if_pos (by simp [e])]; rfl
theorem dot_take (s : Bs) : s.take (dotF s) = s.takeWhile (fun c => decide (c.toNat ≠ 46)) := by
  unfold dotF
  induction s with
  | nil => rfl
  | cons a r ih =>
    rw [List.takeWhile_cons]
    split
    · rw [List.length_cons, List.take_succ_cons, ih]
    · rfl
theorem dot_le (s : Bs) : dotF s ≤ s.length := by
  unfold dotF
  exact (List.takeWhile_sublist _).length_le
def psOf (x : St) : PS := ⟨x.i, x.vs, x.ms⟩
theorem oper_eq (left : Bool) (s : Bs) (x : PS) : operF left s x = (match opF (s.take (dotF s)) with
    | none => none
    | some op =>
      if (arF op).isNone ∨ immOp op ≠ decide (dotF s < s.length) then none
      else if immOp op = false then some (.mk 0 op 0 0 [], x)
      else match decF (s.drop (dotF s + 1)) with
        | some n => some (.mk 0 op n 0 [], x)
        | none => match s.drop (dotF s + 1) with
          | [c] => if isLw c = true ∧ 0 < (lookF x.ms c left).1 then some (.mk 0 op 0 (lookF x.ms c left).1 [], { x with ms := (lookF x.ms c left).2 }) else none
          | _ => none) := by
  have e : (s.drop (dotF s)).tail = s.drop (dotF s + 1) := by rw [List.tail_drop]
  rw [dot_take]
  unfold operF
  dsimp only
  rw [show (List.takeWhile (fun c => decide (c.toNat ≠ 46)) s).length = dotF s from rfl, e]
  rfl
/-- What operation hands back. -/
def OperP (w : World) (p : Nat) (A : Option Addr) (c : Nat) (L : List Tok) (x : St) (o : Option (Pt × PS)) (e : Ending) (w' : World) : Prop :=
  ∃ (q : Pt) (b : Bool) (y : St), e = .returned (.tuple #[pv q none 0, .bool b]) ∧ q.kids = [] ∧ RdS w' p A c L y ∧ y.vs = x.vs ∧ Keeps w p x y ∧ Upd (x.own p) w w' ∧ (b = true → ∃ ps, o = some (q, ps) ∧ ps.i = x.i ∧ ps.vs = x.vs ∧ y.ms = ps.ms) ∧ (b = false → o = none)
set_option maxRecDepth 100000 in
set_option maxHeartbeats 4000000 in
theorem rOperation_c {w : World} {p : Nat} {A : Option Addr} {c : Nat} {L : List Tok} {x : St} (h : RdS w p A c L x) (hn : x.ms.length ≤ 100000) (s : Bs) (hs : s.length ≤ 1000000) :
    Calls Try.prog 79 #[.pointer (some ⟨p, 0, none⟩), .string (kstr s)] w (OperP w p A c L x (operF x.left s (psOf x))) := by
  have HO : Hid (operF x.left s (psOf x) = _) := oper_eq x.left s (psOf x)
  obtain ⟨o, Ho⟩ := nm (operF x.left s (psOf x))
  rw [Ho.out] at HO
  rw [Ho.out]
  have hz : (kstr s).size = s.length := kstr_size s
  obtain ⟨n, Hn⟩ := nm s.length
  rw [Hn.out] at hz hs HO
  have hdl := dot_le s
  rw [Hn.out] at hdl
  obtain ⟨W, HW⟩ := nm (w.alloc (.cells #[.int .i64 0, .int .i64 0, .int .i64 0, .int .i64 0, .slice none 0 0] 30))
  have hU : Upd Non w W := by rw [← HW.out]; exact Upd.refl.alloc _
  have hb : Blk W w.heap.size 30 #[.int .i64 0, .int .i64 0, .int .i64 0, .int .i64 0, .slice none 0 0] := by rw [← HW.out]; exact Blk.new _ _ _
  have e0 := HW.out
  have hpw : p < w.heap.size := h.blk.lt
  have HR := Lib.hid (h.non hU)
  have H := Lib.hid h
  have HB := Lib.hid hb
  have HUU := Lib.hid hU
  clear h hb hU HW
  go_enter Try.func79, Try.ntmps79
  go_wp2_with fail
  go_loopg [6] (n + 1) (fun g a wr => ∃ k : Nat, Hid (g = n + 1 - k) ∧ k ≤ n ∧ a = .int .i64 k ∧ Hid (dotF s = k + dotF (s.drop k)) ∧ wr = W)
  case atStart => exact ⟨0, rfl, by omega, rfl, by show _ = _; rw [List.drop_zero]; omega, rfl⟩
  case round =>
    obtain ⟨k, Hg, hk, rfl, HK, hwr⟩ := hrel
    subst hwr
    obtain ⟨D, HD⟩ := nm (decide (k < n) && decide ((s.getD k 0).toNat ≠ 46))
    go_upto_region 2 with fail
    go_cut [24] (fun s wx => s = .bool D ∧ wx = wr)
    case first =>
      by_cases hlt : k < n
      · have ti : decide ((k : Int) < (n : Int)) = true := decide_eq_true (by omega)
        have i1 := fun W => run_at_str hz hlt W
        rw [kx_kstr] at i1
        generalize (s.getD k 0).toNat = y at i1 HD
        obtain ⟨b, f1⟩ : ∃ b, (((y : Int)) != 46) = b := ⟨_, rfl⟩
        obtain rfl : D = b := by
          rw [← HD.out, ← f1, decide_eq_true hlt, Bool.true_and, Bool.eq_iff_iff, decide_eq_true_eq, bne_iff_ne]
          omega
        clear HD
        go_wp2_with fail
        go_meet
        case rel => exact ⟨rfl, rfl⟩
      · have ti : decide ((k : Int) < (n : Int)) = false := decide_eq_false (by omega)
        obtain rfl : D = false := by rw [← HD.out, decide_eq_false hlt]; rfl
        clear HD
        go_wp2_with fail
        go_meet
        case rel => exact ⟨rfl, rfl⟩
    case rest =>
      obtain ⟨rfl, hwc⟩ := hcut
      have hwc2 : wr = wc := hwc.symm
      subst hwc2
      cases D with
      | true =>
        have hd := HD.out
        simp only [Bool.and_eq_true, decide_eq_true_eq] at hd
        have hk2 := hd.1
        have HK2 : Hid (dotF s = k + 1 + dotF (s.drop (k + 1))) := by
          show _ = _
          have := dot_step (s := s) (k := k) (by rw [Hn.out]; exact hd.1)
          rw [if_neg hd.2] at this
          rw [HK.out, this]; omega
        clear hd HD HK hwc
        go_wp2_with fail
        go_roundg (n + 1 - (k + 1))
        case measure => rw [Hg.out]; omega
        case rel => exact ⟨k + 1, rfl, by omega, by go_num, HK2, rfl⟩
      | false =>
        have hdk : dotF s = k := by
          by_cases hlt : k < n
          · have hd := HD.out
            rw [decide_eq_true hlt, Bool.true_and, decide_eq_false_iff_not] at hd
            have := dot_step (s := s) (k := k) (by rw [Hn.out]; exact hlt)
            rw [if_pos (by omega)] at this
            rw [HK.out, this]; rfl
          · have : s.drop k = [] := List.drop_of_length_le (by rw [Hn.out]; omega)
            rw [HK.out, this]; rfl
        rw [hdk] at HO
        clear HD HK hwc Hg hdl hdk
        have hto := fun W => run_to_str Hn.out hk W
        have CO := Lib.hid (tOp_c (s.take k) wr)
        obtain ⟨ts, Hts⟩ := nm (kstr (s.take k))
        rw [Hts.out] at hto CO
        have hfr : k + 1 ≤ n → ∀ W, (Instr.slice 9 (.string (kstr s)) (some (.int .i64 ((k : Int) + 1))) none none).run Try.prog W = .ok (.string (kstr (s.drop (k + 1)))) W := fun q W => run_from_str Hn.out q W
        obtain ⟨str, Hstr⟩ := nm (kstr s)
        rw [Hstr.out] at hz hto hfr ⊢
        have HFR := Lib.hid hfr
        clear hfr
        cases hop : opF (s.take k) with
        | none =>
          rw [hop] at CO HO
          have HN : Hid (o = none) := HO.out
          have CA := Lib.hid (fun W => rArity_c 0 W)
          rw [show arF 0 = none from rfl] at CA
          simp only [Option.getD_none, Option.isSome_none] at CO CA
          clear hop HO HFR
          go_wp2_with fail
          refine CO.out.mono ?_
          rintro e w9 ⟨rfl, hu9⟩
          go_wp2_with fail
          refine (CA.out _).mono ?_
          rintro e w10 ⟨rfl, rfl⟩
          obtain ⟨w9, rfl⟩ : ∃ x : World, x = w10 := ⟨_, rfl⟩
          clear CO CA
          have b9 := HB.out.upd hu9 (fun f => f)
          have y0 := b9.cell 0
          have y1 := b9.cell 1
          have y2 := b9.cell 2
          have y3 := b9.cell 3
          have y4 := b9.cell 4
          have yf := b9.frozen
          have HB9 := Lib.hid b9
          clear b9
          go_wp2_with fail
          rw [set5_eq]
          have us := set5_upd w9 w.heap.size
          refine bodyPost_ret (results_cell_row_tmp rfl _ _ w.heap.size 30 _ (0, 0) _ rfl (set5_blk HB9.out _ _ _ _ _) Try.underlying30 rfl (by kernel_rfl)) rfl ?_
          refine ⟨.mk 0 0 0 0 [], false, x, rfl, rfl, (HR.out.non hu9).upd (us _ _ _ _ _) (fun j _ e => ?_), rfl, Keeps.refl, ((HUU.out.then_non hu9).trans (us _ _ _ _ _) (fun j hj e => by omega)).mono (fun _ _ f => f.elim), (fun q => by cases q), fun _ => HN.out⟩
          subst e
          have hv := H.out.v.lt (k := w.heap.size)
          have hm := H.out.m.lt (k := w.heap.size)
          exact ⟨hpw, fun q => Nat.lt_irrefl _ (hv q), fun q => Nat.lt_irrefl _ (hm q)⟩
        | some op =>
          rw [hop] at CO HO
          have HO2 : Hid (o = if (arF op).isNone ∨ immOp op ≠ decide (k < n) then none
              else if immOp op = false then some (.mk 0 op 0 0 [], psOf x)
              else match decF (s.drop (k + 1)) with
                | some n => some (.mk 0 op n 0 [], psOf x)
                | none => match s.drop (k + 1) with
                  | [c] => if isLw c = true ∧ 0 < (lookF x.ms c x.left).1 then some (.mk 0 op 0 (lookF x.ms c x.left).1 [], { psOf x with ms := (lookF x.ms c x.left).2 }) else none
                  | _ => none) := HO.out
          have HO := HO2
          clear HO2
          have CA := Lib.hid (fun W => rArity_c op W)
          have CI := Lib.hid (fun W => rHasImm_c op W)
          simp only [Option.getD_some, Option.isSome_some] at CO
          clear hop
          obtain ⟨oi, Hoi⟩ := nm ((op : Nat) : Int)
          rw [Hoi.out] at CO CA CI HO
          cases har : arF oi with
          | none =>
            rw [har] at CA HO
            have HN : Hid (o = none) := by show _ = _; rw [HO.out, if_pos (.inl rfl)]
            simp only [Option.getD_none, Option.isSome_none] at CA
            clear har HO HFR CI
            go_wp2_with fail
            refine CO.out.mono ?_
            rintro e w9 ⟨rfl, hu9⟩
            go_wp2_with fail
            refine (CA.out _).mono ?_
            rintro e w10 ⟨rfl, rfl⟩
            obtain ⟨w9, rfl⟩ : ∃ x : World, x = w10 := ⟨_, rfl⟩
            clear CO CA
            have b9 := HB.out.upd hu9 (fun f => f)
            have y0 := b9.cell 0
            have y1 := b9.cell 1
            have y2 := b9.cell 2
            have y3 := b9.cell 3
            have y4 := b9.cell 4
            have yf := b9.frozen
            have HB9 := Lib.hid b9
            clear b9
            go_wp2_with fail
            rw [set5_eq]
            have us := set5_upd w9 w.heap.size
            refine bodyPost_ret (results_cell_row_tmp rfl _ _ w.heap.size 30 _ (0, 0) _ rfl (set5_blk HB9.out _ _ _ _ _) Try.underlying30 rfl (by kernel_rfl)) rfl ?_
            refine ⟨.mk 0 0 0 0 [], false, x, rfl, rfl, (HR.out.non hu9).upd (us _ _ _ _ _) (fun j _ e => ?_), rfl, Keeps.refl, ((HUU.out.then_non hu9).trans (us _ _ _ _ _) (fun j hj e => by omega)).mono (fun _ _ f => f.elim), (fun q => by cases q), fun _ => HN.out⟩
            subst e
            have hv := H.out.v.lt (k := w.heap.size)
            have hm := H.out.m.lt (k := w.heap.size)
            exact ⟨hpw, fun q => Nat.lt_irrefl _ (hv q), fun q => Nat.lt_irrefl _ (hm q)⟩
          | some ar =>
            rw [har] at CA HO
            simp only [Option.getD_some, Option.isSome_some] at CA
            obtain ⟨im, Him⟩ := nm (immOp oi)
            rw [Him.out] at CI HO
            obtain ⟨ari, Hari⟩ := nm ((ar : Nat) : Int)
            rw [Hari.out] at CA
            by_cases hlt : k < n
            · have fl : decide ((k : Int) < (n : Int)) = true := decide_eq_true (by omega)
              cases im with
              | false =>
                have HN : Hid (o = none) := by show _ = _; rw [HO.out, if_pos (.inr (by simp [hlt]))]
                clear har HO HFR
                go_wp2_with fail
                refine CO.out.mono ?_
                rintro e w9 ⟨rfl, hu9⟩
                go_wp2_with fail
                refine (CA.out _).mono ?_
                rintro e w10 ⟨rfl, rfl⟩
                go_wp2_with fail
                refine (CI.out _).mono ?_
                rintro e w11 ⟨rfl, rfl⟩
                clear CO CA
                obtain ⟨w9, rfl⟩ : ∃ x : World, x = w11 := ⟨_, rfl⟩
                clear CI
                have b9 := HB.out.upd hu9 (fun f => f)
                have y0 := b9.cell 0
                have y1 := b9.cell 1
                have y2 := b9.cell 2
                have y3 := b9.cell 3
                have y4 := b9.cell 4
                have yf := b9.frozen
                have HB9 := Lib.hid b9
                clear b9
                go_wp2_with fail
                rw [set5_eq]
                have us := set5_upd w9 w.heap.size
                refine bodyPost_ret (results_cell_row_tmp rfl _ _ w.heap.size 30 _ (0, 0) _ rfl (set5_blk HB9.out _ _ _ _ _) Try.underlying30 rfl (by kernel_rfl)) rfl ?_
                refine ⟨.mk 0 0 0 0 [], false, x, rfl, rfl, (HR.out.non hu9).upd (us _ _ _ _ _) (fun j _ e => ?_), rfl, Keeps.refl, ((HUU.out.then_non hu9).trans (us _ _ _ _ _) (fun j hj e => by omega)).mono (fun _ _ f => f.elim), (fun q => by cases q), fun _ => HN.out⟩
                subst e
                have hv := H.out.v.lt (k := w.heap.size)
                have hm := H.out.m.lt (k := w.heap.size)
                exact ⟨hpw, fun q => Nat.lt_irrefl _ (hv q), fun q => Nat.lt_irrefl _ (hm q)⟩
              | true =>
                have HO3 : Hid (o = match decF (s.drop (k + 1)) with
                    | some n => some (.mk 0 oi n 0 [], psOf x)
                    | none => match s.drop (k + 1) with
                      | [c] => if isLw c = true ∧ 0 < (lookF x.ms c x.left).1 then some (.mk 0 oi 0 (lookF x.ms c x.left).1 [], { psOf x with ms := (lookF x.ms c x.left).2 }) else none
                      | _ => none) := by
                  show _ = _
                  rw [HO.out, if_neg (by simp [hlt]), if_neg (by decide)]
                have hfr := HFR.out (by omega)
                clear har HO HFR
                obtain ⟨t, Ht⟩ := nm (s.drop (k + 1))
                rw [Ht.out] at HO3 hfr
                have htl : t.length ≤ 1000000 := by rw [← Ht.out, List.length_drop]; have := Hn.out; omega
                have CW := Lib.hid (fun W => wParse_c t W htl)
                obtain ⟨tq, Htq⟩ := nm (kstr t)
                rw [Htq.out] at hfr CW
                have htz : tq.size = t.length := by rw [← Htq.out, kstr_size]
                cases hd : decF t with
                | some nn =>
                  rw [hd] at CW HO3
                  simp only [Option.getD_some, Option.isSome_some] at CW
                  have HS : Hid (o = some (.mk 0 oi nn 0 [], psOf x)) := HO3.out
                  clear hd HO3 htz
                  go_wp2_with fail
                  refine CO.out.mono ?_
                  rintro e w9 ⟨rfl, hu9⟩
                  go_wp2_with fail
                  refine (CA.out _).mono ?_
                  rintro e w10 ⟨rfl, rfl⟩
                  go_wp2_with fail
                  refine (CI.out _).mono ?_
                  rintro e w11 ⟨rfl, rfl⟩
                  clear CO CA
                  go_wp2_with fail
                  refine (CI.out _).mono ?_
                  rintro e w12 ⟨rfl, rfl⟩
                  go_wp2_with fail
                  refine (CW.out _).mono ?_
                  rintro e w13 ⟨rfl, rfl⟩
                  clear CI CW
                  obtain ⟨w9, rfl⟩ : ∃ x : World, x = w13 := ⟨_, rfl⟩
                  have b9 := HB.out.upd hu9 (fun f => f)
                  have y0 := b9.cell 0
                  have y1 := b9.cell 1
                  have y2 := b9.cell 2
                  have y3 := b9.cell 3
                  have y4 := b9.cell 4
                  have yf := b9.frozen
                  have HB9 := Lib.hid b9
                  clear b9
                  go_wp2_with fail
                  rw [set5_eq]
                  have us := set5_upd w9 w.heap.size
                  refine bodyPost_ret (results_cell_row_tmp rfl _ _ w.heap.size 30 _ (0, 0) _ rfl (set5_blk HB9.out _ _ _ _ _) Try.underlying30 rfl (by kernel_rfl)) rfl ?_
                  refine ⟨_, true, x, rfl, rfl, (HR.out.non hu9).upd (us _ _ _ _ _) (fun j _ e => ?_), rfl, Keeps.refl, ((HUU.out.then_non hu9).trans (us _ _ _ _ _) (fun j hj e => by omega)).mono (fun _ _ f => f.elim), (fun _ => ⟨psOf x, HS.out, rfl, rfl, rfl⟩), (fun q => by cases q)⟩
                  subst e
                  have hv := H.out.v.lt (k := w.heap.size)
                  have hm := H.out.m.lt (k := w.heap.size)
                  exact ⟨hpw, fun q => Nat.lt_irrefl _ (hv q), fun q => Nat.lt_irrefl _ (hm q)⟩
                | none =>
                  rw [hd] at CW HO3
                  simp only [Option.getD_none, Option.isSome_none] at CW
                  clear hd
                  by_cases ht1 : t.length = 1
                  · obtain ⟨cc, rfl⟩ : ∃ cc, t = [cc] := List.length_eq_one_iff.1 ht1
                    rw [ht1] at htz
                    have i5 := fun W => run_at_str htz (show 0 < 1 by omega) W
                    rw [← Htq.out, kx_kstr, show ([cc] : Bs).getD 0 0 = cc from rfl, show ((0 : Nat) : Int) = 0 from rfl, Htq.out] at i5
                    have HO4 : Hid (o = if isLw cc = true ∧ 0 < (lookF x.ms cc x.left).1 then some (.mk 0 oi 0 (lookF x.ms cc x.left).1 [], { psOf x with ms := (lookF x.ms cc x.left).2 }) else none) := HO3.out
                    have CL := Lib.hid (fun W => rIsLower_c cc W)
                    obtain ⟨lw, Hlw⟩ := nm (isLw cc)
                    rw [Hlw.out] at CL HO4
                    clear HO3 ht1
                    cases lw with
                    | false =>
                      have HN : Hid (o = none) := by show _ = _; rw [HO4.out, if_neg (fun q => by cases q.1)]
                      clear HO4
                      go_wp2_with fail
                      refine CO.out.mono ?_
                      rintro e w9 ⟨rfl, hu9⟩
                      go_wp2_with fail
                      refine (CA.out _).mono ?_
                      rintro e w10 ⟨rfl, rfl⟩
                      go_wp2_with fail
                      refine (CI.out _).mono ?_
                      rintro e w11 ⟨rfl, rfl⟩
                      clear CO CA
                      go_wp2_with fail
                      refine (CI.out _).mono ?_
                      rintro e w12 ⟨rfl, rfl⟩
                      go_wp2_with fail
                      refine (CW.out _).mono ?_
                      rintro e w13 ⟨rfl, rfl⟩
                      clear CI CW
                      go_wp2_with fail
                      refine (CL.out _).mono ?_
                      rintro e w14 ⟨rfl, rfl⟩
                      obtain ⟨w9, rfl⟩ : ∃ x : World, x = w14 := ⟨_, rfl⟩
                      clear CL
                      have b9 := HB.out.upd hu9 (fun f => f)
                      have y0 := b9.cell 0
                      have y1 := b9.cell 1
                      have y2 := b9.cell 2
                      have y3 := b9.cell 3
                      have y4 := b9.cell 4
                      have yf := b9.frozen
                      have HB9 := Lib.hid b9
                      clear b9
                      go_wp2_with fail
                      rw [set5_eq]
                      have us := set5_upd w9 w.heap.size
                      refine bodyPost_ret (results_cell_row_tmp rfl _ _ w.heap.size 30 _ (0, 0) _ rfl (set5_blk HB9.out _ _ _ _ _) Try.underlying30 rfl (by kernel_rfl)) rfl ?_
                      refine ⟨.mk 0 0 0 0 [], false, x, rfl, rfl, (HR.out.non hu9).upd (us _ _ _ _ _) (fun j _ e => ?_), rfl, Keeps.refl, ((HUU.out.then_non hu9).trans (us _ _ _ _ _) (fun j hj e => by omega)).mono (fun _ _ f => f.elim), (fun q => by cases q), fun _ => HN.out⟩
                      subst e
                      have hv := H.out.v.lt (k := w.heap.size)
                      have hm := H.out.m.lt (k := w.heap.size)
                      exact ⟨hpw, fun q => Nat.lt_irrefl _ (hv q), fun q => Nat.lt_irrefl _ (hm q)⟩
                    | true =>
                      go_wp2_with fail
                      refine CO.out.mono ?_
                      rintro e w9 ⟨rfl, hu9⟩
                      go_wp2_with fail
                      refine (CA.out _).mono ?_
                      rintro e w10 ⟨rfl, rfl⟩
                      go_wp2_with fail
                      refine (CI.out _).mono ?_
                      rintro e w11 ⟨rfl, rfl⟩
                      clear CO CA
                      go_wp2_with fail
                      refine (CI.out _).mono ?_
                      rintro e w12 ⟨rfl, rfl⟩
                      go_wp2_with fail
                      refine (CW.out _).mono ?_
                      rintro e w13 ⟨rfl, rfl⟩
                      clear CI CW
                      go_wp2_with fail
                      refine (CL.out _).mono ?_
                      rintro e w14 ⟨rfl, rfl⟩
                      obtain ⟨wA, rfl⟩ : ∃ x : World, x = w14 := ⟨_, rfl⟩
                      clear CL
                      go_upto_region 16 with fail
                      obtain ⟨wD, HwD⟩ := nm wA.drew
                      have uD : Upd Non wA wD := by rw [← HwD.out]; exact Upd.refl.drew
                      have vD : Upd Non w wD := (HUU.out.then_non hu9).then_non uD
                      have hRD := H.out.non vD
                      have d6 := hRD.cells.2.2.2.2.2.2
                      have CK := Lib.hid (rLookM_c hRD hn cc x.left)
                      have sD := vD.size
                      have sD2 : w.heap.size < wD.heap.size := by
                        have := HB.out.lt
                        have := hu9.size
                        have := uD.size
                        omega
                      clear hRD
                      refine wp_region_held_drew (S := fun w' => w'.cell? ⟨p, 6, none⟩ = some (.bool x.left)) (by kernel_rfl) (by rw [HwD.out]; exact d6) (fun hHeld => ?_)
                      rw [HwD.out] at hHeld ⊢
                      refine wpAnyH_take (i := 0) (v := ?_) rfl (by kernel_rfl) (by kernel_rfl) (by kernel_rfl) (fun _ _ _ h => h) (Or.inl ⟨by rfl, ?_⟩) (by assumption) ?_
                      rotate_left
                      · intro w hSw; (try dsimp only at hSw); go_simp; try with_reducible rfl
                      try simp only [put_y]
                      try simp only [Act.put]
                      try simp only [put_z]
                      refine wpAnyH_take (i := 1) (v := ?_) rfl (by kernel_rfl) (by kernel_rfl) (by kernel_rfl) (fun _ _ _ h => h) (Or.inl ⟨by rfl, ?_⟩) (by assumption) ?_
                      rotate_left
                      · intro w hSw; (try dsimp only at hSw); go_simp; try with_reducible rfl
                      try simp only [put_y]
                      try simp only [Act.put]
                      try simp only [put_z]
                      refine wpAnyH_take (i := 2) (v := ?_) rfl (by kernel_rfl) (by kernel_rfl) (by kernel_rfl) (fun _ _ _ h => h) (Or.inl ⟨by rfl, ?_⟩) (by assumption) ?_
                      rotate_left
                      · intro w hSw; (try dsimp only at hSw); go_simp; try with_reducible rfl
                      try simp only [put_y]
                      try simp only [Act.put]
                      try simp only [put_z]
                      refine wpAnyH_take (i := 3) (v := ?_) rfl (by kernel_rfl) (by kernel_rfl) (by kernel_rfl) (fun _ _ _ h => h) (Or.inl ⟨by rfl, ?_⟩) (by assumption) ?_
                      rotate_left
                      · intro w hSw; (try dsimp only at hSw); go_simp; try with_reducible rfl
                      try simp only [put_y]
                      try simp only [Act.put]
                      try simp only [put_z]
                      refine wpAnyH_take (i := 4) (v := ?_) rfl (by kernel_rfl) (by kernel_rfl) (by kernel_rfl) (fun _ _ _ h => h) (Or.inl ⟨by rfl, ?_⟩) (by assumption) ?_
                      rotate_left
                      · intro w hSw; (try dsimp only at hSw); go_simp; try with_reducible rfl
                      try simp only [put_y]
                      try simp only [Act.put]
                      try simp only [put_z]
                      refine wpAnyH_take (i := 5) (v := ?_) rfl (by kernel_rfl) (by kernel_rfl) (by kernel_rfl) (fun _ _ _ h => h) (Or.inl ⟨by rfl, ?_⟩) (by assumption) ?_
                      rotate_left
                      · intro w hSw; (try dsimp only at hSw); go_simp; try with_reducible rfl
                      try simp only [put_y]
                      try simp only [Act.put]
                      try simp only [put_z]
                      refine wpAnyH_take (i := 6) (v := ?_) rfl (by kernel_rfl) (by kernel_rfl) (by kernel_rfl) (fun _ _ _ h => h) (Or.inl ⟨by rfl, ?_⟩) (by assumption) ?_
                      rotate_left
                      · intro w hSw; (try dsimp only at hSw); go_simp; try with_reducible rfl
                      try simp only [put_y]
                      try simp only [Act.put]
                      try simp only [put_z]
                      refine wpAnyH_take (i := 7) (v := ?_) rfl (by kernel_rfl) (by kernel_rfl) (by kernel_rfl) (fun _ _ _ h => h) (Or.inl ⟨by rfl, ?_⟩) (by assumption) ?_
                      rotate_left
                      · intro w hSw; (try dsimp only at hSw); go_simp; try with_reducible rfl
                      try simp only [put_y]
                      try simp only [Act.put]
                      try simp only [put_z]
                      refine wpAnyH_take (i := 8) (v := ?_) rfl (by kernel_rfl) (by kernel_rfl) (by kernel_rfl) (fun _ _ _ h => h) (Or.inl ⟨by rfl, ?_⟩) (by assumption) ?_
                      rotate_left
                      · intro w hSw; (try dsimp only at hSw); go_simp; try with_reducible rfl
                      try simp only [put_y]
                      try simp only [Act.put]
                      try simp only [put_z]
                      refine wpAnyH_ready (rs := [9]) (by kernel_rfl) (by simp) ?_
                      refine AllReadyH.cons rfl (fun K hK => ?_) AllReadyH.nil
                      go_simp
                      refine CK.out.mono ?_
                      rintro e w2 ⟨rfl, y, hy, hy1, hy2, hky, hu2⟩
                      go_wp2_with fail
                      have e6 := hy.cells.2.2.2.2.2.2
                      rw [hky.left] at e6
                      refine hK.out _ _ ?_ (fun hHeld => ?_)
                      · exact e6
                      clear hK K
                      try simp only [put_y]
                      try simp only [Act.put]
                      try simp only [put_z]
                      refine wpAnyH_take (i := 10) (v := ?_) rfl (by kernel_rfl) (by kernel_rfl) (by kernel_rfl) (fun _ _ _ h => h) (Or.inl ⟨by rfl, ?_⟩) (by assumption) ?_
                      rotate_left
                      · intro w hSw; (try dsimp only at hSw); go_simp; try with_reducible rfl
                      try simp only [put_y]
                      try simp only [Act.put]
                      try simp only [put_z]
                      refine wpAnyH_done (by kernel_rfl) ?_ _
                      obtain ⟨kk, Hkk⟩ := nm (lookF x.ms cc x.left)
                      rw [Hkk.out] at hy1 HO4 ⊢
                      have hown : ∀ j, y.own p j → j ≠ w.heap.size := fun j hj e => by
                        subst e
                        rcases hky.own _ hj with q | q
                        · have := H.out.lt q; omega
                        · omega
                      have HY := Lib.hid hy
                      have HU2 : Hid (Upd (x.own p) w w2) := (vD.mono (fun _ _ f => f.elim)).trans hu2 (fun _ _ q => q)
                      have HKY : Hid (Keeps w p x y) := ⟨hky.i, hky.why, hky.ea, hky.left, fun j hj => (hky.own j hj).imp_right (fun q => by omega)⟩
                      have HY1 := Lib.hid hy1
                      have HY2 := Lib.hid hy2
                      have b9 : Blk w2 w.heap.size 30 #[.int .i64 0, .int .i64 0, .int .i64 0, .int .i64 0, .slice none 0 0] := ((HB.out.upd hu9 (fun f => f)).upd uD (fun f => f)).upd hu2 (fun q => by have := H.out.lt q; omega)
                      have y0 := b9.cell 0
                      have y1 := b9.cell 1
                      have y2 := b9.cell 2
                      have y3 := b9.cell 3
                      have y4 := b9.cell 4
                      have yf := b9.frozen
                      have HB9 := Lib.hid b9
                      clear b9 hHeld CK hy hy1 hy2 hky hu2 hu9 uD vD HwD d6 e6
                      obtain ⟨kn, Hkn⟩ := nm kk.1
                      rw [Hkn.out] at HO4 ⊢
                      by_cases hpos : 0 < kn
                      · have fp : decide ((0 : Int) < (kn : Int)) = true := decide_eq_true (by omega)
                        have HS : Hid (o = some (.mk 0 oi 0 kn [], { psOf x with ms := kk.2 })) := by show _ = _; rw [HO4.out, if_pos ⟨by trivial, hpos⟩]
                        clear HO4
                        go_wp2_with fail
                        rw [set5_eq]
                        have us := set5_upd w2 w.heap.size
                        refine bodyPost_ret (results_cell_row_tmp rfl _ _ w.heap.size 30 _ (0, 0) _ rfl (set5_blk HB9.out _ _ _ _ _) Try.underlying30 rfl (by kernel_rfl)) rfl ?_
                        refine ⟨_, true, y, rfl, rfl, HY.out.upd (us _ _ _ _ _) (fun j _ e => by subst e; exact ⟨hpw, fun q => hown _ (.inr (.inl q)) rfl, fun q => hown _ (.inr (.inr q)) rfl⟩), HY2.out, HKY.out, HU2.out.trans (us _ _ _ _ _) (fun j hj e => by omega), (fun _ => ⟨_, HS.out, rfl, rfl, HY1.out⟩), (fun q => by cases q)⟩
                      · have fp : decide ((0 : Int) < (kn : Int)) = false := decide_eq_false (by omega)
                        have HN : Hid (o = none) := by show _ = _; rw [HO4.out, if_neg (fun q => hpos q.2)]
                        clear HO4
                        go_wp2_with fail
                        rw [set5_eq]
                        have us := set5_upd w2 w.heap.size
                        refine bodyPost_ret (results_cell_row_tmp rfl _ _ w.heap.size 30 _ (0, 0) _ rfl (set5_blk HB9.out _ _ _ _ _) Try.underlying30 rfl (by kernel_rfl)) rfl ?_
                        refine ⟨.mk 0 oi 0 kn [], false, y, rfl, rfl, HY.out.upd (us _ _ _ _ _) (fun j _ e => by subst e; exact ⟨hpw, fun q => hown _ (.inr (.inl q)) rfl, fun q => hown _ (.inr (.inr q)) rfl⟩), HY2.out, HKY.out, HU2.out.trans (us _ _ _ _ _) (fun j hj e => by omega), (fun q => by cases q), fun _ => HN.out⟩
                  · have HN : Hid (o = none) := by
                      show _ = _
                      rw [HO3.out]
                      match t, ht1 with
                      | [], _ => rfl
                      | _ :: _ :: _, _ => rfl
                    obtain ⟨tm, Htm⟩ := nm t.length
                    rw [Htm.out] at htz ht1
                    have ft : (((tm : Nat) : Int) != 1) = true := by simp; omega
                    clear HO3
                    go_wp2_with fail
                    refine CO.out.mono ?_
                    rintro e w9 ⟨rfl, hu9⟩
                    go_wp2_with fail
                    refine (CA.out _).mono ?_
                    rintro e w10 ⟨rfl, rfl⟩
                    go_wp2_with fail
                    refine (CI.out _).mono ?_
                    rintro e w11 ⟨rfl, rfl⟩
                    clear CO CA
                    go_wp2_with fail
                    refine (CI.out _).mono ?_
                    rintro e w12 ⟨rfl, rfl⟩
                    go_wp2_with fail
                    refine (CW.out _).mono ?_
                    rintro e w13 ⟨rfl, rfl⟩
                    clear CI CW
                    obtain ⟨w9, rfl⟩ : ∃ x : World, x = w13 := ⟨_, rfl⟩
                    have b9 := HB.out.upd hu9 (fun f => f)
                    have y0 := b9.cell 0
                    have y1 := b9.cell 1
                    have y2 := b9.cell 2
                    have y3 := b9.cell 3
                    have y4 := b9.cell 4
                    have yf := b9.frozen
                    have HB9 := Lib.hid b9
                    clear b9
                    go_wp2_with fail
                    rw [set5_eq]
                    have us := set5_upd w9 w.heap.size
                    refine bodyPost_ret (results_cell_row_tmp rfl _ _ w.heap.size 30 _ (0, 0) _ rfl (set5_blk HB9.out _ _ _ _ _) Try.underlying30 rfl (by kernel_rfl)) rfl ?_
                    refine ⟨.mk 0 0 0 0 [], false, x, rfl, rfl, (HR.out.non hu9).upd (us _ _ _ _ _) (fun j _ e => ?_), rfl, Keeps.refl, ((HUU.out.then_non hu9).trans (us _ _ _ _ _) (fun j hj e => by omega)).mono (fun _ _ f => f.elim), (fun q => by cases q), fun _ => HN.out⟩
                    subst e
                    have hv := H.out.v.lt (k := w.heap.size)
                    have hm := H.out.m.lt (k := w.heap.size)
                    exact ⟨hpw, fun q => Nat.lt_irrefl _ (hv q), fun q => Nat.lt_irrefl _ (hm q)⟩
            · have fl : decide ((k : Int) < (n : Int)) = false := decide_eq_false (by omega)
              cases im with
              | true =>
                have HN : Hid (o = none) := by show _ = _; rw [HO.out, if_pos (.inr (by simp [hlt]))]
                clear har HO HFR
                go_wp2_with fail
                refine CO.out.mono ?_
                rintro e w9 ⟨rfl, hu9⟩
                go_wp2_with fail
                refine (CA.out _).mono ?_
                rintro e w10 ⟨rfl, rfl⟩
                go_wp2_with fail
                refine (CI.out _).mono ?_
                rintro e w11 ⟨rfl, rfl⟩
                clear CO CA
                obtain ⟨w9, rfl⟩ : ∃ x : World, x = w11 := ⟨_, rfl⟩
                clear CI
                have b9 := HB.out.upd hu9 (fun f => f)
                have y0 := b9.cell 0
                have y1 := b9.cell 1
                have y2 := b9.cell 2
                have y3 := b9.cell 3
                have y4 := b9.cell 4
                have yf := b9.frozen
                have HB9 := Lib.hid b9
                clear b9
                go_wp2_with fail
                rw [set5_eq]
                have us := set5_upd w9 w.heap.size
                refine bodyPost_ret (results_cell_row_tmp rfl _ _ w.heap.size 30 _ (0, 0) _ rfl (set5_blk HB9.out _ _ _ _ _) Try.underlying30 rfl (by kernel_rfl)) rfl ?_
                refine ⟨.mk 0 0 0 0 [], false, x, rfl, rfl, (HR.out.non hu9).upd (us _ _ _ _ _) (fun j _ e => ?_), rfl, Keeps.refl, ((HUU.out.then_non hu9).trans (us _ _ _ _ _) (fun j hj e => by omega)).mono (fun _ _ f => f.elim), (fun q => by cases q), fun _ => HN.out⟩
                subst e
                have hv := H.out.v.lt (k := w.heap.size)
                have hm := H.out.m.lt (k := w.heap.size)
                exact ⟨hpw, fun q => Nat.lt_irrefl _ (hv q), fun q => Nat.lt_irrefl _ (hm q)⟩
              | false =>
                have HS : Hid (o = some (.mk 0 oi 0 0 [], psOf x)) := by show _ = _; rw [HO.out, if_neg (by simp [hlt]), if_pos rfl]
                clear har HO HFR
                go_wp2_with fail
                refine CO.out.mono ?_
                rintro e w9 ⟨rfl, hu9⟩
                go_wp2_with fail
                refine (CA.out _).mono ?_
                rintro e w10 ⟨rfl, rfl⟩
                go_wp2_with fail
                refine (CI.out _).mono ?_
                rintro e w11 ⟨rfl, rfl⟩
                clear CO CA
                go_wp2_with fail
                refine (CI.out _).mono ?_
                rintro e w12 ⟨rfl, rfl⟩
                obtain ⟨w9, rfl⟩ : ∃ x : World, x = w12 := ⟨_, rfl⟩
                clear CI
                have b9 := HB.out.upd hu9 (fun f => f)
                have y0 := b9.cell 0
                have y1 := b9.cell 1
                have y2 := b9.cell 2
                have y3 := b9.cell 3
                have y4 := b9.cell 4
                have yf := b9.frozen
                have HB9 := Lib.hid b9
                clear b9
                go_wp2_with fail
                rw [set5_eq]
                have us := set5_upd w9 w.heap.size
                refine bodyPost_ret (results_cell_row_tmp rfl _ _ w.heap.size 30 _ (0, 0) _ rfl (set5_blk HB9.out _ _ _ _ _) Try.underlying30 rfl (by kernel_rfl)) rfl ?_
                refine ⟨_, true, x, rfl, rfl, (HR.out.non hu9).upd (us _ _ _ _ _) (fun j _ e => ?_), rfl, Keeps.refl, ((HUU.out.then_non hu9).trans (us _ _ _ _ _) (fun j hj e => by omega)).mono (fun _ _ f => f.elim), (fun _ => ⟨psOf x, HS.out, rfl, rfl, rfl⟩), (fun q => by cases q)⟩
                subst e
                have hv := H.out.v.lt (k := w.heap.size)
                have hm := H.out.m.lt (k := w.heap.size)
                exact ⟨hpw, fun q => Nat.lt_irrefl _ (hv q), fun q => Nat.lt_irrefl _ (hm q)⟩
end Go.Proofs.Ytblkgjdhaibhgaa
