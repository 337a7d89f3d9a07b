/-
  The printer of patterns walked.
-/
import Derived.Test.YtblkgjdhaibhgaaPrtC
namespace Go.Proofs.Ytblkgjdhaibhgaa
open Go.RowKit

set_option maxRecDepth 100000 in
theorem tName_c (op : Int) (h0 : 4 ≤ op) (h1 : op < 32) (w : World) : Calls Try.prog 52 #[.int .i64 op] w fun e w' => e = .returned (.tuple #[.string (kstr (opNm op)), .bool true]) ∧ Upd Non w w' := by
  have C := Lib.hid (tnames_c w)
  obtain ⟨k, rfl⟩ : ∃ k : Nat, op = 4 + k := ⟨(op - 4).toNat, by omega⟩
  have hk : k < 28 := by omega
  have hkl : k < nameL.length := hk
  have HN : Hid (opNm (4 + (k : Int)) = nameL[k]) := by
    show _ = _
    unfold opNm
    rw [show (4 + (k : Int) - 4).toNat = k by omega, List.getD, List.getElem?_eq_getElem hkl, Option.getD_some]
  rw [HN.out]
  obtain ⟨nk, Hnk⟩ := nm (kstr nameL[k])
  rw [Hnk.out]
  have td : decide (28 ≤ (k : Int)) = false := decide_eq_false (by omega)
  have t1 : decide (4 + (k : Int) < 4) = false := decide_eq_false (by omega)
  have t3 : 4 + (k : Int) - 4 = (k : Int) := by omega
  clear HN h0 h1
  go_enter Try.func52, Try.ntmps52
  go_wp2_with fail
  refine C.out.mono ?_
  rintro e W ⟨rfl, hs, hu⟩
  obtain ⟨b, o, e, _, _, hc⟩ := hs.at_ (k := k) (by simpa [sCells] using hkl)
  injection e with e
  injection e with e1 e2
  subst e1 e2
  have hc2 : W.cell? ⟨w.heap.size, k, none⟩ = some (.string (kstr nameL[k])) := by rw [Nat.zero_add] at hc; rw [hc]; simp [sCells]
  rw [Hnk.out] at hc2
  clear C hs hc
  go_wp2_with fail
  go_ret2
  exact ⟨rfl, hu⟩
theorem fmt_eq (p : Pt) : fmtF p = if 0 < p.v then vnF p.v else if p.op = 1 then (if 0 < p.iv then 36 :: inF p.iv else textF p.imm)
    else [40] ++ opNm p.op ++ (if 0 < p.iv then 46 :: inF p.iv else if immOp p.op = true then 46 :: textF p.imm else []) ++ fmtL p.kids ++ [41] := by
  cases p
  rw [fmtF]
  rfl
theorem FmOk.inv {p : Pt} (h : FmOk p) : (0 < p.v ∧ p.v ≤ 100) ∨ (¬ 0 < p.v ∧ p.op = 1 ∧ -9223372036854775808 ≤ p.imm ∧ p.imm ≤ 9223372036854775807 ∧ p.iv ≤ 100) ∨ (¬ 0 < p.v ∧ 4 ≤ p.op ∧ p.op < 32 ∧ -9223372036854775808 ≤ p.imm ∧ p.imm ≤ 9223372036854775807 ∧ p.iv ≤ 100 ∧ ∀ k ∈ p.kids, FmOk k) := by
  cases h with
  | var h1 h2 => exact .inl ⟨h1, h2⟩
  | cst h1 h2 h3 h4 => exact .inr (.inl ⟨h1, rfl, h2, h3, h4⟩)
  | app h1 h2 h3 h4 h5 h6 h7 => exact .inr (.inr ⟨h1, h2, h3, h4, h5, h6, h7⟩)
theorem ksz {L : Bs} {n : Nat} (h : L.length ≤ n) : (kstr L).size ≤ n := by rw [← kx_len, kx_kstr]; exact h
set_option maxRecDepth 100000 in
set_option maxHeartbeats 2000000 in
theorem rFormat_c (p : Pt) : ∀ (w : World) (F : Nat → Prop) (KA : Option Addr) (kc : Nat), PtK w F p KA kc → FmOk p → p.size ≤ 1000000000000 →
    Calls Try.prog 21 #[pv p KA kc] w fun e w' => e = .returned (.string (kstr (fmtF p))) ∧ Upd Non w w' := by
  induction p using Pt.ind with
  | h p ih =>
    intro w F KA kc hp hok hs
    have hse := Pt.size_eq p
    have hle := Pt.len_le p.kids
    have HI := Lib.hid ih
    obtain ⟨W, HW⟩ := nm (w.alloc (.cells #[.int .i64 p.v, .int .i64 p.op, .int .i64 p.imm, .int .i64 p.iv, .slice KA p.kids.length kc] 30))
    have hU : Upd Non w W := by rw [← HW.out]; exact Upd.refl.alloc _
    have hb : Blk W w.heap.size 30 #[.int .i64 p.v, .int .i64 p.op, .int .i64 p.imm, .int .i64 p.iv, .slice KA p.kids.length kc] := by rw [← HW.out]; exact Blk.new _ _ _
    have e0 := HW.out
    have c0 := hb.cell 0
    have c1 := hb.cell 1
    have c2 := hb.cell 2
    have c3 := hb.cell 3
    have HB := Lib.hid hb
    have HF := Lib.hid (fmt_eq p)
    have HLN := Lib.hid (fmtF_len p hok)
    obtain ⟨res, Hres⟩ := nm (fmtF p)
    rw [Hres.out] at HF HLN ⊢
    have hpW := PtK.upd hU (fun _ _ _ f => f) p KA kc hp
    have HPW := Lib.hid hpW
    have HS := Lib.hid hse
    have HU := Lib.hid hU
    unfold pv
    clear ih hse hp hb hpW hU
    rcases hok.inv with ⟨a1, a2⟩ | ⟨a1, a2, a3, a4, a5⟩ | ⟨a1, a2, a3, a4, a5, a6, a7⟩
    · have tv : decide (0 < p.v) = true := decide_eq_true a1
      have HR : Hid (res = vnF p.v) := by show _ = _; rw [HF.out, if_pos a1]
      have CV := Lib.hid (fun W => rVarName_c p.v a1 a2 W)
      rw [HR.out]
      clear a1 a2 hok hle
      obtain ⟨v, Hv⟩ := nm p.v
      rw [Hv.out] at c0 tv e0 CV ⊢
      clear c1 c2 c3
      go_enter Try.func21, Try.ntmps21
      go_wp2_with fail
      refine (CV.out _).mono ?_
      rintro e w2 ⟨rfl, hu⟩
      clear CV e0
      go_wp2_with fail
      go_ret
      exact ⟨rfl, HU.out.then_non hu⟩
    · have tv : decide (0 < p.v) = false := decide_eq_false a1
      by_cases hi : 0 < p.iv
      · have ti : decide (0 < p.iv) = true := decide_eq_true hi
        have HR : Hid (res = 36 :: inF p.iv) := by show _ = _; rw [HF.out, if_neg a1, if_pos a2, if_pos hi]
        have CV := Lib.hid (fun W => rImmName_c p.iv hi a5 W)
        have hz : (kstr (inF p.iv)).size ≤ 1 := ksz (Nat.le_refl _)
        have HA : Hid (({ data := #[36] } : ByteArray) ++ kstr (inF p.iv) = kstr res) := by show _ = _; rw [HR.out]; exact kstr_app [36] _
        rw [a2] at c1 e0
        obtain ⟨str, Hstr⟩ := nm (kstr (inF p.iv))
        rw [Hstr.out] at CV HA hz
        rw [a2]
        clear a1 a2 a3 a4 a5 hok hle HF hi
        obtain ⟨v, Hv⟩ := nm p.v
        obtain ⟨iv, Hiv⟩ := nm p.iv
        rw [Hv.out, Hiv.out] at e0
        rw [Hv.out] at c0 tv
        rw [Hiv.out] at c3 ti CV
        rw [Hv.out, Hiv.out]
        clear c2
        go_enter Try.func21, Try.ntmps21
        go_wp2_with fail
        refine (CV.out _).mono ?_
        rintro e w2 ⟨rfl, hu⟩
        clear CV e0
        go_wp2_with fail
        go_ret
        exact ⟨by rw [← HA.out]; rfl, HU.out.then_non hu⟩
      · have ti : decide (0 < p.iv) = false := decide_eq_false hi
        have HR : Hid (res = textF p.imm) := by show _ = _; rw [HF.out, if_neg a1, if_pos a2, if_neg hi]
        have CV := Lib.hid (fun W => wText_c p.imm a3 a4 W)
        rw [HR.out]
        rw [a2] at c1 e0
        rw [a2]
        clear a1 a2 a3 a4 a5 hok hle HF hi
        obtain ⟨v, Hv⟩ := nm p.v
        obtain ⟨iv, Hiv⟩ := nm p.iv
        obtain ⟨imm, Himm⟩ := nm p.imm
        rw [Hv.out, Hiv.out, Himm.out] at e0
        rw [Hv.out] at c0 tv
        rw [Hiv.out] at c3 ti
        rw [Himm.out] at c2 CV
        rw [Hv.out, Hiv.out, Himm.out]
        go_enter Try.func21, Try.ntmps21
        go_wp2_with fail
        refine (CV.out _).mono ?_
        rintro e w2 ⟨rfl, hu⟩
        clear CV e0
        go_wp2_with fail
        go_ret
        exact ⟨rfl, HU.out.then_non hu⟩
    · have tv : decide (0 < p.v) = false := decide_eq_false a1
      have tp1 : (p.op == 1) = false := by simp; omega
      have HR : Hid (res = [40] ++ opNm p.op ++ (if 0 < p.iv then 46 :: inF p.iv else if immOp p.op = true then 46 :: textF p.imm else []) ++ fmtL p.kids ++ [41]) := by show _ = _; rw [HF.out, if_neg a1, if_neg (by omega)]
      have HBD := Lib.hid hok
      obtain ⟨suf, Hsuf⟩ := nm (if 0 < p.iv then 46 :: inF p.iv else if immOp p.op = true then 46 :: textF p.imm else ([] : Bs))
      have hsufl : suf.length ≤ 22 := by
        rw [← Hsuf.out]
        have := textF_len ⟨a4, a5⟩
        split
        · simp [inF]
        · split <;> simp <;> omega
      rw [Hsuf.out] at HR
      have hnl := opNm_len p.op
      have CN := Lib.hid (tName_c p.op a2 a3 W)
      obtain ⟨nmb, Hnmb⟩ := nm (opNm p.op)
      rw [Hnmb.out] at HR hnl CN
      have hz : (kstr nmb).size ≤ 5 := ksz hnl
      have H5 : Hid (({ data := #[40] } : ByteArray) ++ kstr nmb = kstr ([40] ++ nmb)) := kstr_app [40] nmb
      obtain ⟨ns, Hns⟩ := nm (kstr nmb)
      rw [Hns.out] at CN hz H5
      have hz5 : (kstr ([40] ++ nmb)).size ≤ 6 := ksz (by simp; omega)
      obtain ⟨s5, Hs5⟩ := nm (kstr ([40] ++ nmb))
      rw [Hs5.out] at H5 hz5
      have hk := HBD.out
      have HKS : Hid (∀ k ∈ p.kids, FmOk k) := a7
      have HIM : Hid (-9223372036854775808 ≤ p.imm ∧ p.imm ≤ 9223372036854775807 ∧ p.iv ≤ 100) := ⟨a4, a5, a6⟩
      have CI := Lib.hid (fun (h : 0 < p.iv) W => rImmName_c p.iv h a6 W)
      have CT := Lib.hid (fun W => wText_c p.imm a4 a5 W)
      have CH := Lib.hid (fun W => rHasImm_c p.op W)
      have HSP : Hid (suf = if 0 < p.iv then 46 :: inF p.iv else if immOp p.op = true then 46 :: textF p.imm else ([] : Bs)) := Hsuf.out.symm
      have hpo : p.op ≠ 1 := by omega
      clear a1 a2 a3 a4 a5 a6 a7 hok hk HF Hsuf
      obtain ⟨v, Hv⟩ := nm p.v
      obtain ⟨iv, Hiv⟩ := nm p.iv
      obtain ⟨imm, Himm⟩ := nm p.imm
      obtain ⟨op, Hop⟩ := nm p.op
      obtain ⟨n, Hn⟩ := nm p.kids.length
      rw [Hv.out, Hiv.out, Himm.out, Hop.out, Hn.out] at e0
      rw [Hv.out] at c0 tv
      rw [Hiv.out] at c3 CI
      rw [Hop.out] at c1 tp1 CN CH
      rw [Himm.out] at c2 CT
      rw [Hiv.out, Himm.out, Hop.out] at HSP
      rw [Hn.out] at hle
      rw [Hv.out, Hiv.out, Himm.out, Hop.out, Hn.out]
      have hn12 : n ≤ 1000000000000 := by have := HS.out; omega
      clear hpo
      go_enter Try.func21, Try.ntmps21
      go_wp2_with fail
      refine CN.out.mono ?_
      rintro e w2 ⟨rfl, hu2⟩
      have d2 := cell_upd c2 hu2 (fun f => f)
      have d3 := cell_upd c3 hu2 (fun f => f)
      have d1 := cell_upd c1 hu2 (fun f => f)
      have h5 := H5.out
      clear CN e0 c0 c1 c2 c3
      obtain ⟨D, HD⟩ := nm (decide (0 < iv))
      have tD := HD.out
      go_upto_if 45 with fail
      clear tD
      go_cut [5] (fun s wx => s = .string (kstr ([40] ++ nmb ++ suf)) ∧ Upd Non W wx)
      case first =>
        cases D with
        | true =>
          have hi : 0 < iv := of_decide_eq_true HD.out
          have CII := Lib.hid (CI.out hi)
          have HSF : Hid (suf = 46 :: inF iv) := by show _ = _; rw [HSP.out, if_pos hi]
          have hzi : (kstr (inF iv)).size ≤ 1 := ksz (Nat.le_refl _)
          have HE : Hid (s5 ++ (({ data := #[46] } : ByteArray) ++ kstr (inF iv)) = kstr ([40] ++ nmb ++ suf)) := by
            show _ = _
            rw [← Hs5.out, HSF.out, show ({ data := #[46] } : ByteArray) ++ kstr (inF iv) = kstr (46 :: inF iv) from kstr_app [46] _, kstr_app]
          obtain ⟨im, Him⟩ := nm (kstr (inF iv))
          rw [Him.out] at CII hzi HE
          clear hi
          go_wp2_with fail
          refine (CII.out _).mono ?_
          rintro e w3 ⟨rfl, hu3⟩
          clear CII
          go_wp2_with fail
          go_meet
          case rel => exact ⟨by rw [← HE.out], hu2.then_non hu3⟩
        | false =>
          have hi : ¬ 0 < iv := of_decide_eq_false HD.out
          obtain ⟨hm, Hhm⟩ := nm (immOp op)
          have CHH := Lib.hid (CH.out)
          rw [Hhm.out] at CHH
          cases hm with
          | true =>
            have HSF : Hid (suf = 46 :: textF imm) := by show _ = _; rw [HSP.out, if_neg hi, if_pos Hhm.out]
            have hzi : (kstr (textF imm)).size ≤ 21 := ksz (textF_len (by rw [← Himm.out]; exact ⟨HIM.out.1, HIM.out.2.1⟩))
            have HE : Hid (s5 ++ (({ data := #[46] } : ByteArray) ++ kstr (textF imm)) = kstr ([40] ++ nmb ++ suf)) := by
              show _ = _
              rw [← Hs5.out, HSF.out, show ({ data := #[46] } : ByteArray) ++ kstr (textF imm) = kstr (46 :: textF imm) from kstr_app [46] _, kstr_app]
            have CTT := Lib.hid (CT.out)
            obtain ⟨im, Him⟩ := nm (kstr (textF imm))
            rw [Him.out] at CTT hzi HE
            clear hi
            go_wp2_with fail
            refine (CHH.out _).mono ?_
            rintro e w3 ⟨rfl, rfl⟩
            go_wp2_with fail
            refine (CTT.out _).mono ?_
            rintro e w4 ⟨rfl, hu3⟩
            clear CTT
            go_wp2_with fail
            go_meet
            case rel => exact ⟨by rw [← HE.out], hu2.then_non hu3⟩
          | false =>
            have HE : Hid (s5 = kstr ([40] ++ nmb ++ suf)) := by show _ = _; rw [← Hs5.out, HSP.out, if_neg hi, if_neg (by rw [Hhm.out]; decide), List.append_nil]
            clear hi
            go_wp2_with fail
            refine (CHH.out _).mono ?_
            rintro e w3 ⟨rfl, rfl⟩
            go_wp2_with fail
            go_meet
            case rel => exact ⟨by rw [← HE.out], hu2⟩
      case rest =>
        obtain ⟨rfl, hwc⟩ := hcut
        clear d1 d2 d3 h5 CI CT CH HSP
        have hbw := HB.out.upd hwc (fun f => f)
        rw [Hn.out] at hbw
        have c4 := hbw.cell 4
        have HPC := Lib.hid (PtK.upd hwc (fun _ _ _ f => f) p KA kc HPW.out)
        have HUC := Lib.hid (HU.out.then_non hwc)
        obtain ⟨pre, Hpre⟩ := nm ([40] ++ nmb ++ suf)
        have hpl : pre.length ≤ 28 := by rw [← Hpre.out]; simp; omega
        rw [Hpre.out] at HR ⊢
        clear hbw hwc hu2
        go_wp2_with fail
        go_loopg [5, 7, 64] n (fun g v _ i wr => ∃ k : Nat, Hid (g = n - k) ∧ k ≤ n ∧ i = .int .i64 k ∧ v = .string (kstr (pre ++ fmtL (p.kids.take k))) ∧ Hid (Upd Non wc wr))
        case atStart => exact ⟨0, rfl, by omega, rfl, by simp [fmtL], Upd.refl⟩
        case round =>
          obtain ⟨k, Hg, hk, rfl, rfl, Hu⟩ := hrel
          have hkt := Pt.sizeL_take_le p.kids k
          have hfl := fmtL_len (p.kids.take k) (fun q hq => HKS.out q (List.mem_of_mem_take hq))
          have hz0 : (kstr (pre ++ fmtL (p.kids.take k))).size ≤ 100000000000000 := ksz (by rw [List.length_append]; have := HS.out; omega)
          by_cases hlt : k < n
          · have hkl : k < p.kids.length := by rw [Hn.out]; exact hlt
            obtain ⟨b, o, rfl, hF, hbw, KB, kd, h0, h1, h2, h3, h4, h5⟩ := (PtK.upd Hu.out (fun _ _ _ f => f) p KA kc HPC.out).at_ hkl
            have hks : p.kids[k].size ≤ 1000000000000 := by have := Pt.kids_lt (List.getElem_mem hkl); omega
            have hmem0 := List.getElem_mem hkl
            have HTK : Hid (p.kids.take (k + 1) = p.kids.take k ++ [p.kids[k]]) := take_snoc' hkl
            generalize p.kids[k] = q at *
            have hmem : q ∈ p.kids := by assumption
            obtain ⟨W3, HW3⟩ := nm (wr.alloc (.cells #[.int .i64 q.v, .int .i64 q.op, .int .i64 q.imm, .int .i64 q.iv, .slice KB q.kids.length kd] 30))
            have hq := PtK.upd (Upd.refl.alloc (S := Non) (.cells #[.int .i64 q.v, .int .i64 q.op, .int .i64 q.imm, .int .i64 q.iv, .slice KB q.kids.length kd] 30)) (fun _ _ _ f => f) q KB kd h5
            have C1 := Lib.hid (HI.out q hmem _ F KB kd hq (HKS.out q hmem) hks)
            unfold pv at C1
            have hql := fmtF_len q (HKS.out q hmem)
            have hzq : (kstr (fmtF q)).size ≤ 100000000000000 := ksz (by omega)
            have HE : Hid (kstr (pre ++ fmtL (p.kids.take k)) ++ (({ data := #[32] } : ByteArray) ++ kstr (fmtF q)) = kstr (pre ++ fmtL (p.kids.take (k + 1)))) := by
              show _ = _
              rw [HTK.out, fmtL_snoc, show ({ data := #[32] } : ByteArray) ++ kstr (fmtF q) = kstr (32 :: fmtF q) from kstr_app [32] _, kstr_app, List.append_assoc]
            obtain ⟨sq, Hsq⟩ := nm (kstr (fmtF q))
            obtain ⟨sk, Hsk⟩ := nm (kstr (pre ++ fmtL (p.kids.take k)))
            rw [Hsq.out] at C1 hzq HE
            rw [Hsk.out] at hz0 HE ⊢
            clear hkt hfl h5 hq hql hmem hmem0 hks
            go_wp2_with fail
            refine C1.out.mono ?_
            rintro e w4 ⟨rfl, hu4⟩
            clear C1
            go_wp2_with fail
            go_roundg (n - (k + 1))
            case measure => rw [Hg.out]; omega
            case rel => exact ⟨k + 1, rfl, by omega, by go_num, by rw [← HE.out], (Hu.out.alloc _).then_non hu4⟩
          · obtain rfl : n = k := by omega
            have HE : Hid (kstr (pre ++ fmtL (p.kids.take n)) ++ ({ data := #[41] } : ByteArray) = kstr res) := by
              show _ = _
              rw [← Hn.out, List.take_length, HR.out]
              exact kstr_app _ [41]
            obtain ⟨sk, Hsk⟩ := nm (kstr (pre ++ fmtL (p.kids.take n)))
            rw [Hsk.out] at hz0 HE ⊢
            clear hkt hfl
            go_wp2_with fail
            go_ret
            exact ⟨by rw [← HE.out]; rfl, HUC.out.then_non Hu.out⟩
end Go.Proofs.Ytblkgjdhaibhgaa
