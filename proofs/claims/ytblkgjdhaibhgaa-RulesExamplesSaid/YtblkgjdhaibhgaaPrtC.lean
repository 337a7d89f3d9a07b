/-
  The small printers walked: variables, numbers, operations' names.
-/
import Derived.Test.YtblkgjdhaibhgaaPrtP
import Derived.Test.YtblkgjdhaibhgaaOpC
namespace Go.Proofs.Ytblkgjdhaibhgaa
open Go.RowKit

theorem bstr_k (ns : List Int) : bstr ns = kstr (ns.map fun n => UInt8.ofNat n.toNat) := rfl
set_option maxRecDepth 100000 in
theorem rImmName_c (n : Int) (h0 : 0 < n) (h1 : n ≤ 100) (w : World) : Calls Try.prog 50 #[.int .i64 n] w fun e w' => e = .returned (.string (kstr (inF n))) ∧ Upd Non w w' := by
  have hc := run_str (P := Try.prog) (src := 48) (dst := 9) Try.underlying48 Try.underlying5 Try.underlying9 (ns := [107 + n - 1]) (c := 1) (Sl.new w 5 [.int .u8 (107 + n - 1)]) (n := 1) rfl
  have HE : Hid (bstr [107 + n - 1] = kstr (inF n)) := by
    show bstr _ = _
    rw [bstr_k]
    unfold inF
    rw [show [107 + n - 1].map (fun n => UInt8.ofNat n.toNat) = [UInt8.ofNat (106 + n.toNat)] by show [UInt8.ofNat (107 + n - 1).toNat] = _; rw [show (107 + n - 1).toNat = 106 + n.toNat by omega]]
  obtain ⟨s, Hs⟩ := nm (bstr [107 + n - 1])
  rw [Hs.out] at hc HE
  rw [← HE.out]
  clear Hs HE
  go_enter Try.func50, Try.ntmps50
  go_wp2_with fail
  go_ret
  exact ⟨rfl, Upd.refl.alloc _⟩
set_option maxRecDepth 100000 in
theorem rVarName_c (n : Int) (h0 : 0 < n) (h1 : n ≤ 100) (w : World) : Calls Try.prog 49 #[.int .i64 n] w fun e w' => e = .returned (.string (kstr (vnF n))) ∧ Upd Non w w' := by
  have hc := run_str (P := Try.prog) (src := 48) (dst := 9) Try.underlying48 Try.underlying5 Try.underlying9 (ns := [97 + n - 1]) (c := 1) (Sl.new w 5 [.int .u8 (97 + n - 1)]) (n := 1) rfl
  have HE : Hid (({ data := #[63] } : ByteArray) ++ bstr [97 + n - 1] = kstr (vnF n)) := by
    show _ ++ bstr _ = _
    rw [bstr_k]
    unfold vnF
    rw [show [97 + n - 1].map (fun n => UInt8.ofNat n.toNat) = [UInt8.ofNat (96 + n.toNat)] by show [UInt8.ofNat (97 + n - 1).toNat] = _; rw [show (97 + n - 1).toNat = 96 + n.toNat by omega]]
    exact kstr_app [63] _
  have hsz : (bstr [97 + n - 1]).size = 1 := by simp [bstr, ByteArray.size]
  obtain ⟨s, Hs⟩ := nm (bstr [97 + n - 1])
  rw [Hs.out] at hc HE hsz
  rw [← HE.out]
  clear Hs HE
  go_enter Try.func49, Try.ntmps49
  go_wp2_with fail
  go_ret
  exact ⟨rfl, Upd.refl.alloc _⟩
theorem slice20 (g i : Nat) (hi : i < 20) (W : World) : (Instr.sliceAt 121 (.pointer (some ⟨g, 0, none⟩)) (some (.int .i64 i)) none none).run Try.prog W = .ok (.slice (some ⟨g, i, none⟩) (20 - i) (20 - i)) W := by
  have hal : Try.prog.arrayLen 121 = 20 := by kernel_rfl
  have hel : Try.prog.elem 121 = 5 := by kernel_rfl
  have ht : Try.prog.underlying 121 = some (.array (Try.prog.arrayLen 121) (Try.prog.elem 121)) := by rw [hal, hel]; exact Try.underlying121
  have hsz : (sizeOf 5).run Try.prog W = .ok 1 W := by
    have h : (Try.prog.info? 5).map (·.size) = some 1 := by kernel_rfl
    cases hi : Try.prog.info? 5 with
    | none => rw [hi] at h; cases h
    | some i => rw [hi] at h; simp at h; simp [sizeOf, typeInfo, hi, h]
  rw [run_sliceAt_array_l W 121 ⟨g, 0, none⟩ ht .i64 i (by omega) (by rw [hal]; omega), hal, hel, hsz]
  have hne : ¬ 20 = i := by omega
  simp [slicedAt, Result.andThen, hne, Addr.add_lit]
theorem bstr_ub (L : Bs) : bstr (L.map fun b => (b.toNat : Int)) = kstr L := by
  rw [bstr_k, List.map_map]
  congr 1
  have : ((fun n : Int => UInt8.ofNat n.toNat) ∘ fun b : UInt8 => (b.toNat : Int)) = id := by funext b; simp
  rw [this, List.map_id]
def ub (b : UInt8) : Value := .int .u8 b.toNat
theorem Sl.drop_ {W : World} {g i : Nat} {t : TypeId} {cs : Array Value} {L : Bs} (hb : Blk W g t cs) (h : cs.toList.drop i = L.map ub) : Sl W (fun _ => True) (some ⟨g, i, none⟩) ((L.map fun b => (b.toNat : Int)).map fun x => .int .u8 x) := by
  refine .inr ⟨_, _, rfl, trivial, fun k hk => ?_⟩
  have hk2 : k < L.length := by simpa using hk
  rw [hb.cell]
  have h1 : cs[i + k]? = (cs.toList.drop i)[k]? := by rw [List.getElem?_drop]; simp
  rw [h1, h]
  simp [ub, hk2]
set_option maxRecDepth 100000 in
set_option maxHeartbeats 1000000 in
theorem wDigits_c (n : Nat) (hn : n ≤ 18446744073709551615) (w : World) : Calls Try.prog 75 #[.int .u64 n] w fun e w' => e = .returned (.string (kstr (decD n))) ∧ Upd Non w w' := by
  go_enter Try.func75, Try.ntmps75
  go_wp2_with fail
  go_loopg [0, 4] 20 (fun g nv av wr => ∃ (j m : Nat) (suf : Bs) (cs : Array Value), Hid (g = j) ∧ 1 ≤ j ∧ j ≤ 20 ∧ nv = .int .u64 m ∧ av = .int .i64 j ∧ Hid (Blk wr w.heap.size 121 cs) ∧ cs.size = 20 ∧ Hid (cs.toList.drop j = suf.map ub) ∧ Hid (decD n = decD m ++ suf) ∧ m ≤ 18446744073709551615 ∧ Hid (m < 10 ^ j) ∧ Hid (j = 20 ∨ 0 < m) ∧ Hid (Upd Non w wr))
  case atStart => exact ⟨20, n, [], _, rfl, by omega, by omega, rfl, rfl, Blk.new _ _ _, rfl, rfl, by show _ = _; rw [List.append_nil], hn, by show n < 10 ^ 20; omega, .inl rfl, Upd.refl.alloc _⟩
  case round =>
    obtain ⟨j, m, suf, cs, Hg, hj1, hj2, rfl, rfl, Hb, hcs, HD, HN, hm64, HM, HZ, HU⟩ := hrel
    obtain ⟨i, rfl⟩ : ∃ i, j = i + 1 := ⟨j - 1, by omega⟩
    have hil : i < cs.size := by omega
    have ci := Hb.out.cell i
    rw [Array.getElem?_eq_getElem hil] at ci
    have cf := Hb.out.frozen i
    obtain ⟨old, Hold⟩ := nm cs[i]
    rw [Hold.out] at ci
    obtain ⟨W, HW⟩ := nm (wr.setCell ⟨w.heap.size, i, none⟩ (.int .u8 (48 + (m : Int) % 10)))
    have e1 := HW.out
    have hb2 : Blk W w.heap.size 121 (cs.setIfInBounds i (.int .u8 (48 + (m : Int) % 10))) := by rw [← e1]; exact Hb.out.set_ i _
    have hu2 : Upd Non w W := by rw [← e1]; exact HU.out.trans (updCell _ _ _ _) (fun k hk e => by omega)
    have hd2 : (cs.setIfInBounds i (.int .u8 (48 + (m : Int) % 10))).toList.drop i = (UInt8.ofNat (48 + m % 10) :: suf).map ub := by
      have h1 : i < cs.toList.length := by simpa using hil
      rw [Array.toList_setIfInBounds, List.drop_set, if_neg (by omega), Nat.sub_self, List.drop_eq_getElem_cons h1, HD.out]
      simp only [List.set_cons_zero, List.map_cons, ub]
      congr 2
      simp
      omega
    have HB2 := Lib.hid hb2
    have HU2 := Lib.hid hu2
    have HD2 := Lib.hid hd2
    have hsl := slice20 w.heap.size i (by omega) W
    have hcv := run_str (P := Try.prog) (w := W) (F := fun _ => True) (src := 48) (dst := 9) Try.underlying48 Try.underlying5 Try.underlying9 (A := some ⟨w.heap.size, i, none⟩) (n := 20 - i) (c := 20 - i) (ns := (UInt8.ofNat (48 + m % 10) :: suf).map fun b => (b.toNat : Int))
      (Sl.drop_ hb2 hd2) (by
        have := congrArg List.length hd2
        simp only [List.length_drop, Array.length_toList, Array.size_setIfInBounds, List.length_map] at this
        simp only [List.length_map]
        omega)
    rw [bstr_ub] at hcv
    clear hb2 hu2 hd2
    by_cases hm : m < 10
    · have tq : ((m : Int) / 10 == 0) = true := by simp; omega
      obtain ⟨str, Hstr⟩ := nm (kstr (UInt8.ofNat (48 + m % 10) :: suf))
      rw [Hstr.out] at hcv
      go_wp2_with fail
      go_ret
      refine ⟨?_, HU2.out⟩
      rw [HN.out, decD_lt hm, ← Hstr.out, Nat.mod_eq_of_lt hm]
      rfl
    · have tq : ((m : Int) / 10 == 0) = false := by simp; omega
      clear hsl hcv
      go_wp2_with fail
      go_roundg i
      case measure => rw [Hg.out]; omega
      case rel =>
        have hmn : m / 10 < 10 ^ i := by rw [Nat.div_lt_iff_lt_mul (by decide)]; have := HM.out; rw [Nat.pow_succ] at this; exact this
        refine ⟨i, m / 10, UInt8.ofNat (48 + m % 10) :: suf, _, rfl, ?_, by omega, by go_num, rfl, HB2.out, by simpa using hcs, HD2.out, ?_, by omega, hmn, .inr (by omega), HU2.out⟩
        · rcases Nat.eq_zero_or_pos i with q | q
          · subst q; simp at hmn; omega
          · exact q
        · show decD n = _
          rw [HN.out, decD_ge hm (by omega), List.append_assoc]
          rfl
set_option maxRecDepth 100000 in
theorem wText_c (n : Int) (h0 : -9223372036854775808 ≤ n) (h1 : n ≤ 9223372036854775807) (w : World) : Calls Try.prog 51 #[.int .i64 n] w fun e w' => e = .returned (.string (kstr (textF n))) ∧ Upd Non w w' := by
  have C := Lib.hid (wDigits_c n.natAbs (by omega) w)
  have HL : Hid ((kstr (decD n.natAbs)).size ≤ 20) := by
    show _ ≤ _
    rw [← kx_len, kx_kstr]
    exact decD_len _
  have HE : Hid (kstr (textF n) = if n < 0 then ({ data := #[45] } : ByteArray) ++ kstr (decD n.natAbs) else kstr (decD n.natAbs)) := by
    show _ = _
    unfold textF
    split
    · exact (kstr_app [45] _).symm
    · rfl
  obtain ⟨s, Hs⟩ := nm (kstr (decD n.natAbs))
  obtain ⟨t, Ht⟩ := nm (kstr (textF n))
  rw [Hs.out] at C HL HE
  rw [Ht.out] at HE ⊢
  have hl := HL.out
  by_cases hn : n < 0
  · have t0 : decide (n < 0) = true := decide_eq_true hn
    have HR : Hid (t = ({ data := #[45] } : ByteArray) ++ s) := by show _ = _; rw [HE.out, if_pos hn]
    rw [show ((n.natAbs : Nat) : Int) = -n by omega] at C
    clear HE HL Hs Ht
    go_enter Try.func51, Try.ntmps51
    have hw : IntKind.u64.wrap (-IntKind.u64.wrap n) = -n := by
      simp [IntKind.wrap, IntKind.bits, IntKind.signed]
      omega
    go_wp2_with fail
    refine C.out.mono ?_
    rintro e w2 ⟨rfl, hu⟩
    clear C hw
    go_wp2_with fail
    go_ret
    exact ⟨by rw [HR.out]; rfl, hu⟩
  · have t0 : decide (n < 0) = false := decide_eq_false hn
    have HR : Hid (t = s) := by show _ = _; rw [HE.out, if_neg hn]
    rw [show ((n.natAbs : Nat) : Int) = n by omega] at C
    clear HE HL Hs Ht
    go_enter Try.func51, Try.ntmps51
    go_wp2_with fail
    refine C.out.mono ?_
    rintro e w2 ⟨rfl, hu⟩
    clear C
    go_wp2_with fail
    go_ret
    exact ⟨by rw [HR.out]; rfl, hu⟩
end Go.Proofs.Ytblkgjdhaibhgaa
