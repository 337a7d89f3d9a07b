/-
  What the reference's occurring does: it marks the variables that occur in a pattern.
-/
import Derived.Test.YtnefhokojbkppaaRulC
namespace Go.Proofs.Ytnefhokojbkppaa
open Go.RowKit

def BBlk (w : World) (g : Nat) (bs : List Bool) : Prop := Blk w g 4 (bs.map Value.bool).toArray
theorem BBlk.cell {w : World} {g : Nat} {bs : List Bool} (h : BBlk w g bs) {i : Nat} (hi : i < bs.length) : w.cell? ⟨g, i, none⟩ = some (.bool (bs.getD i false)) := by
  rw [Blk.cell h]; simp [List.getD, hi]
theorem BBlk.set_ {w : World} {g : Nat} {bs : List Bool} (h : BBlk w g bs) (i : Nat) (x : Bool) : BBlk (w.setCell ⟨g, i, none⟩ (.bool x)) g (bs.set i x) := by
  have := Blk.set_ h i (.bool x)
  unfold BBlk
  rw [show ((bs.set i x).map Value.bool).toArray = (bs.map Value.bool).toArray.setIfInBounds i (.bool x) by simp [List.map_set]]
  exact this
theorem BBlk.new (w : World) (n : Nat) : BBlk (w.alloc (.cells (Array.replicate n (.bool false)) 4)) w.heap.size (List.replicate n false) := by
  unfold BBlk
  rw [show ((List.replicate n false).map Value.bool).toArray = Array.replicate n (.bool false) by simp]
  exact Blk.new _ _ _
/-- One mark. -/
def mk1 (x : Int) (bs : List Bool) : List Bool := if 0 < x ∧ x < (bs.length : Int) then bs.set x.toNat true else bs
theorem mk1_len (x : Int) (bs : List Bool) : (mk1 x bs).length = bs.length := by
  unfold mk1; split <;> simp
theorem markV_node (p : Pt) (bs : List Bool) : markV (nodes p) bs = markV (nodesL p.kids) (mk1 p.v bs) := by rw [nodes_eq]; rfl
theorem markI_node (p : Pt) (bs : List Bool) : markI (nodes p) bs = markI (nodesL p.kids) (mk1 p.iv bs) := by rw [nodes_eq]; rfl
theorem markV_len (l : List Pt) : ∀ bs : List Bool, (markV l bs).length = bs.length := by
  induction l with
  | nil => intro bs; rfl
  | cons p l ih => intro bs; show (markV l (mk1 p.v bs)).length = _; rw [ih, mk1_len]
theorem markI_len (l : List Pt) : ∀ bs : List Bool, (markI l bs).length = bs.length := by
  induction l with
  | nil => intro bs; rfl
  | cons p l ih => intro bs; show (markI l (mk1 p.iv bs)).length = _; rw [ih, mk1_len]
theorem markV_app (a b : List Pt) (bs : List Bool) : markV (a ++ b) bs = markV b (markV a bs) := by unfold markV; rw [List.foldl_append]
theorem markI_app (a b : List Pt) (bs : List Bool) : markI (a ++ b) bs = markI b (markI a bs) := by unfold markI; rw [List.foldl_append]

set_option maxRecDepth 100000 in
set_option maxHeartbeats 4000000 in
theorem r15occurring_c (p : Pt) : ∀ (w : World) (F : Nat → Prop) (KA : Option Addr) (kc gv c gi d : Nat) (bs cs : List Bool), PtK w F p KA kc → ¬ F gv → ¬ F gi → gv ≠ gi → BBlk w gv bs → BBlk w gi cs → p.size ≤ 1000000000000 →
    Calls Try.prog 63 #[pv p KA kc, .slice (some ⟨gv, 0, none⟩) bs.length c, .slice (some ⟨gi, 0, none⟩) cs.length d] w fun e w' => e = .returned (.tuple #[]) ∧ BBlk w' gv (markV (nodes p) bs) ∧ BBlk w' gi (markI (nodes p) cs) ∧ Upd (fun k => k = gv ∨ k = gi) w w' := by
  induction p using Pt.ind with
  | h p ih =>
    intro w F KA kc gv c gi d bs cs hp hFv hFi hne hgv hgi hs
    have HI := Lib.hid ih
    obtain ⟨W, HW⟩ := nm (w.alloc (.cells #[.int .i64 p.v, .int .i64 p.op, .int .i64 p.imm, .int .i64 p.iv, .slice KA p.kids.length kc] 24))
    have hU : Upd Non w W := by rw [← HW.out]; exact Upd.refl.alloc _
    have hb : Blk W w.heap.size 24 #[.int .i64 p.v, .int .i64 p.op, .int .i64 p.imm, .int .i64 p.iv, .slice KA p.kids.length kc] := by rw [← HW.out]; exact Blk.new _ _ _
    have e0 := HW.out
    have hvlt : gv < w.heap.size := Blk.lt hgv
    have hilt : gi < w.heap.size := Blk.lt hgi
    have hgv : BBlk W gv bs := Blk.upd hgv hU (fun f => f)
    have hgi : BBlk W gi cs := Blk.upd hgi hU (fun f => f)
    have hp := PtK.upd hU (fun _ _ _ f => f) p KA kc hp
    have HZ := Lib.hid (fun (k : Pt) (h : k ∈ p.kids) => Nat.le_trans (Nat.le_of_lt (Pt.kids_lt h)) hs)
    have hkl : p.kids.length ≤ 1000000000000 := by have h1 := Pt.len_le p.kids; have h2 := Pt.size_eq p; omega
    rw [markV_node, markI_node]
    have c0 := hb.cell 0
    have h2U : Upd (fun k => k = gv ∨ k = gi) w W := hU.mono (fun _ _ f => f.elim)
    unfold pv
    obtain ⟨v, Hv⟩ := nm p.v
    obtain ⟨op, Hop⟩ := nm p.op
    obtain ⟨imm, Him⟩ := nm p.imm
    obtain ⟨iv, Hiv⟩ := nm p.iv
    obtain ⟨k, Hk⟩ := nm p.kids.length
    rw [Hv.out] at c0 e0 hb
    rw [Hop.out] at e0 hb
    rw [Him.out] at e0 hb
    rw [Hiv.out] at e0 hb
    rw [Hk.out] at e0 hb hkl
    rw [Hv.out, Hop.out, Him.out, Hiv.out, Hk.out]
    obtain ⟨vn, Hvn⟩ := nm bs.length
    obtain ⟨mn, Hmn⟩ := nm cs.length
    rw [Hvn.out, Hmn.out]
    have hLV := mk1_len v bs
    have hLI := mk1_len iv cs
    obtain ⟨bs1, Hbs1⟩ := nm (mk1 v bs)
    obtain ⟨cs1, Hcs1⟩ := nm (mk1 iv cs)
    rw [Hvn.out, Hbs1.out] at hLV
    rw [Hmn.out, Hcs1.out] at hLI
    have HLV := Lib.hid hLV
    have HLI := Lib.hid hLI
    rw [Hbs1.out, Hcs1.out]
    clear ih hs hLV hLI
    go_enter Try.func63, Try.ntmps63
    obtain ⟨b1, f1⟩ : ∃ b, decide (0 < v) = b := ⟨_, rfl⟩
    obtain ⟨b2, f2⟩ : ∃ b, decide (v < (vn : Int)) = b := ⟨_, rfl⟩
    have F1 := Lib.hid f1
    have F2 := Lib.hid f2
    go_upto_region 1 with fail
    go_cut [16] (fun t wx => t = .bool (b1 && b2) ∧ wx = W)
    case first =>
      cases b1 with
      | false => go_wp2_with fail; go_meet; exact ⟨rfl, rfl⟩
      | true => cases b2 <;> (go_wp2_with fail; go_meet; exact ⟨rfl, rfl⟩)
    case rest =>
      obtain ⟨rfl, ew⟩ := hcut
      obtain rfl : W = _ := ew.symm
      clear f1 f2
      go_upto_if 16 with fail
      go_cut [] (fun wx => BBlk wx gv bs1 ∧ Upd (· = gv) W wx)
      case first =>
        cases hT : (b1 && b2) with
        | true =>
          have hb1 : b1 = true := by revert hT; cases b1 <;> simp
          have hb2 : b2 = true := by revert hT; cases b2 <;> simp
          have h1 : 0 < v := of_decide_eq_true (by rw [F1.out, hb1])
          have h2 : v < (vn : Int) := of_decide_eq_true (by rw [F2.out, hb2])
          obtain ⟨j, rfl⟩ : ∃ j : Nat, v = (j : Int) := Int.eq_ofNat_of_zero_le (by omega)
          have hj : j < bs.length := by rw [Hvn.out]; omega
          have hz := BBlk.cell hgv hj
          have hfr := Blk.frozen hgv
          have hE : bs.set j true = bs1 := by rw [← Hbs1.out]; unfold mk1; rw [if_pos ⟨h1, by rw [Hvn.out]; exact h2⟩]; rfl
          obtain ⟨W2, HW2⟩ := nm (W.setCell ⟨gv, j, none⟩ (.bool true))
          have hgv2 : BBlk W2 gv bs1 := by rw [← HW2.out, ← hE]; exact BBlk.set_ hgv j true
          have u2 : Upd (· = gv) W W2 := by rw [← HW2.out]; exact updCell _ _ _ _
          have e2 := HW2.out
          have HE := Lib.hid hgv2
          have hj2 : j < vn := by omega
          have hT2 := Lib.hid hT
          clear hE hgv2 hgv hb1 hb2 hT h1 h2
          go_wp2_with fail
          go_meet
          case rel => exact ⟨HE.out, u2⟩
        | false =>
          have hE : bs = bs1 := by
            rw [← Hbs1.out]; unfold mk1
            rw [if_neg]
            rw [Hvn.out]
            rintro ⟨h1, h2⟩
            have a1 := F1.out
            have a2 := F2.out
            rw [decide_eq_true h1] at a1
            rw [decide_eq_true h2] at a2
            rw [← a1, ← a2] at hT
            cases hT
          have HE := Lib.hid hE
          clear hE
          go_wp2_with fail
          go_meet
          case rel => exact ⟨by rw [← HE.out]; exact hgv, Upd.refl⟩
      case rest =>
        obtain ⟨hgv1, u1⟩ := hcut
        have hbc := hb.upd u1 (by omega)
        have hgi1 : BBlk wc gi cs := Blk.upd hgi u1 (fun e => hne e.symm)
        have hp1 := PtK.upd u1 (fun q _ hq e => hFv (by rw [← e]; exact hq)) p KA kc hp
        have HU1 := h2U.trans u1 (fun q _ h => .inl h)
        have hsc := u1.size
        have c0 := hbc.cell 0
        have c3 := hbc.cell 3
        have c4 := hbc.cell 4
        obtain ⟨b3, f3⟩ : ∃ b, decide (0 < iv) = b := ⟨_, rfl⟩
        obtain ⟨b4, f4⟩ : ∃ b, decide (iv < (mn : Int)) = b := ⟨_, rfl⟩
        have F3 := Lib.hid f3
        have F4 := Lib.hid f4
        clear hb
        obtain ⟨wd, rfl⟩ : ∃ wd : World, wd = wc := ⟨_, rfl⟩
        go_upto_region 3 with fail
        go_cut [30] (fun t wx => t = .bool (b3 && b4) ∧ wx = wd)
        case first =>
          cases b3 with
          | false => go_wp2_with fail; go_meet; exact ⟨rfl, rfl⟩
          | true => cases b4 <;> (go_wp2_with fail; go_meet; exact ⟨rfl, rfl⟩)
        case rest =>
          obtain ⟨rfl, ew⟩ := hcut
          obtain rfl : wd = _ := ew.symm
          clear f3 f4
          go_upto_if 30 with fail
          go_cut [] (fun wx => BBlk wx gi cs1 ∧ Upd (· = gi) wd wx)
          case first =>
            cases hT : (b3 && b4) with
            | true =>
              have hb1 : b3 = true := by revert hT; cases b3 <;> simp
              have hb2 : b4 = true := by revert hT; cases b4 <;> simp
              have h1 : 0 < iv := of_decide_eq_true (by rw [F3.out, hb1])
              have h2 : iv < (mn : Int) := of_decide_eq_true (by rw [F4.out, hb2])
              obtain ⟨j, rfl⟩ : ∃ j : Nat, iv = (j : Int) := Int.eq_ofNat_of_zero_le (by omega)
              have hj : j < cs.length := by rw [Hmn.out]; omega
              have hz := BBlk.cell hgi1 hj
              have hfr := Blk.frozen hgi1
              have hE : cs.set j true = cs1 := by rw [← Hcs1.out]; unfold mk1; rw [if_pos ⟨h1, by rw [Hmn.out]; exact h2⟩]; rfl
              obtain ⟨W2, HW2⟩ := nm (wd.setCell ⟨gi, j, none⟩ (.bool true))
              have hgi2 : BBlk W2 gi cs1 := by rw [← HW2.out, ← hE]; exact BBlk.set_ hgi1 j true
              have u2 : Upd (· = gi) wd W2 := by rw [← HW2.out]; exact updCell _ _ _ _
              have e2 := HW2.out
              have HE := Lib.hid hgi2
              have hj2 : j < mn := by omega
              have hT2 := Lib.hid hT
              clear hE hgi2 hb1 hb2 hT h1 h2
              go_wp2_with fail
              go_meet
              case rel => exact ⟨HE.out, u2⟩
            | false =>
              have hE : cs = cs1 := by
                rw [← Hcs1.out]; unfold mk1
                rw [if_neg]
                rw [Hmn.out]
                rintro ⟨h1, h2⟩
                have a1 := F3.out
                have a2 := F4.out
                rw [decide_eq_true h1] at a1
                rw [decide_eq_true h2] at a2
                rw [← a1, ← a2] at hT
                cases hT
              have HE := Lib.hid hE
              clear hE
              go_wp2_with fail
              go_meet
              case rel => exact ⟨by rw [← HE.out]; exact hgi1, Upd.refl⟩
          case rest =>
            obtain ⟨W4, rfl⟩ : ∃ W4 : World, W4 = wc := ⟨_, rfl⟩
            obtain ⟨hgi2, u2⟩ := hcut
            have hbc2 := hbc.upd u2 (by omega)
            have hgv2 : BBlk W4 gv bs1 := Blk.upd hgv1 u2 hne
            have hp4 := PtK.upd u2 (fun q _ hq e => hFi (by rw [← e]; exact hq)) p KA kc hp1
            have HU4 := HU1.trans u2 (fun q _ h => .inr h)
            have hs4 := u2.size
            have c4 := hbc2.cell 4
            have hgi2 := Lib.hid hgi2
            have hgv2 := Lib.hid hgv2
            clear hgv1 hgi1 hp1 c0 c3 hbc u1 hgv hgi
            go_wp2_with fail
            go_loopg [6] k (fun g i wr => ∃ q : Nat, Hid (g = k - q) ∧ q ≤ k ∧ i = .int .i64 q ∧ Hid (BBlk wr gv (markV (nodesL (p.kids.take q)) bs1)) ∧ Hid (BBlk wr gi (markI (nodesL (p.kids.take q)) cs1)) ∧ Upd (fun q => q = gv ∨ q = gi) W4 wr)
            case atStart => exact ⟨0, rfl, by omega, rfl, hgv2.out, hgi2.out, Upd.refl⟩
            case round =>
              obtain ⟨q, Hg, hq, rfl, HV, HM, hu⟩ := hrel
              have d4 := (hbc2.upd hu (by omega)).cell 4
              by_cases hlt : q < k
              · have hql : q < p.kids.length := by rw [Hk.out]; exact hlt
                have hpr := PtK.upd hu (fun q _ hq e => by rcases e with rfl | rfl; exact hFv hq; exact hFi hq) p KA kc hp4
                obtain ⟨b, o, rfl, hF, hbw, KB, kd, h0, h1, h2, h3, h4, h5⟩ := hpr.at_ hql
                have HTK : Hid (p.kids.take (q + 1) = p.kids.take q ++ [p.kids[q]]) := take_snoc' hql
                have hmem := List.getElem_mem hql
                generalize p.kids[q] = t at *
                have hts := HZ.out t hmem
                have C1 := Lib.hid (HI.out t hmem wr F KB kd gv c gi d (markV (nodesL (p.kids.take q)) bs1) (markI (nodesL (p.kids.take q)) cs1) h5 hFv hFi hne HV.out HM.out hts)
                rw [markV_len, markI_len, HLV.out, HLI.out] at C1
                unfold pv at C1
                have HV2 : Hid (markV (nodes t) (markV (nodesL (p.kids.take q)) bs1) = markV (nodesL (p.kids.take (q + 1))) bs1) := by show _ = _; rw [HTK.out, nodesL_snoc, markV_app]
                have HM2 : Hid (markI (nodes t) (markI (nodesL (p.kids.take q)) cs1) = markI (nodesL (p.kids.take (q + 1))) cs1) := by show _ = _; rw [HTK.out, nodesL_snoc, markI_app]
                rw [HV2.out, HM2.out] at C1
                clear h5 HV HM HTK hmem
                go_wp2_with fail
                refine C1.out.mono ?_
                rintro e w7 ⟨rfl, hv7, hm7, hu7⟩
                have HV7 := Lib.hid hv7
                have HM7 := Lib.hid hm7
                have HU7 : Upd (fun q => q = gv ∨ q = gi) W4 w7 := hu.trans hu7 (fun _ _ h => h)
                clear hv7 hm7 C1
                go_wp2_with fail
                go_roundg (k - (q + 1))
                case measure => rw [Hg.out]; omega
                case rel => exact ⟨q + 1, rfl, by omega, by go_num, HV7.out, HM7.out, HU7⟩
              · obtain rfl : k = q := by omega
                have HT : Hid (p.kids.take k = p.kids) := List.take_of_length_le (by rw [Hk.out]; exact Nat.le_refl _)
                rw [HT.out] at HV HM
                have HU := HU4.trans hu (fun _ _ h => h)
                go_wp2_with fail
                go_end0
                exact ⟨rfl, HV.out, HM.out, HU⟩
end Go.Proofs.Ytnefhokojbkppaa
