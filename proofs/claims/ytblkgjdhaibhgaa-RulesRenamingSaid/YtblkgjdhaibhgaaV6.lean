/-
  Lemmas and walks that the claim rests on, part 6 (packed by a program).
-/
import Derived.Test.YtblkgjdhaibhgaaV3
import Derived.Test.YtblkgjdhaibhgaaV2
import Derived.Test.YtblkgjdhaibhgaaV4
import Derived.Test.YtblkgjdhaibhgaaV5
import Derived.Lib.AppendStr
import Derived.Laws.ResultCell
import Derived.Laws.Rows
namespace Go.Proofs.Ytblkgjdhaibhgaa
open Go.RowKit
theorem kstr_app (a b : Bs) : kstr a ++ kstr b = kstr (a ++ b) := by
 apply kx_inj
 rw [kx_kstr]
 simp [kx, kstr]
def decG : Nat → Nat → Bs
 | 0, _ => []
 | f + 1, n => if n < 10 then [UInt8.ofNat (48 + n)] else decG f (n / 10) ++ [UInt8.ofNat (48 + n % 10)]
def decD (n : Nat) : Bs := decG 20 n
def textF (n : Int) : Bs := if n < 0 then 45 :: decD n.natAbs else decD n.natAbs
def vnF (n : Int) : Bs := [63, UInt8.ofNat (96 + n.toNat)]
def inF (n : Int) : Bs := [UInt8.ofNat (106 + n.toNat)]
def opNm (op : Int) : Bs := nameL.getD (op - 4).toNat []
mutual
def fmtF : Pt → Bs
 | .mk v op imm iv ks =>
  if 0 < v then vnF v
  else if op = 1 then (if 0 < iv then 36 :: inF iv else textF imm)
  else [40] ++ opNm op ++ (if 0 < iv then 46 :: inF iv else if immOp op = true then 46 :: textF imm else []) ++ fmtL ks ++ [41]
def fmtL : List Pt → Bs
 | [] => []
 | k :: ks => 32 :: fmtF k ++ fmtL ks
end
def condNm (k : Int) : Bs := condL.getD (k - 1).toNat []
def fmtC (c : Cd) : Bs :=
 condNm c.kind ++ [32] ++ (if c.kind = 1 then vnF c.a else if c.kind = 4 then vnF c.a ++ [32] ++ vnF c.b else if c.kind = 5 then vnF c.a ++ [32] ++ inF c.b else if c.kind = 6 then inF c.a ++ [32] ++ inF c.b else vnF c.a ++ [32] ++ textF c.n)
def fmtCs : List Cd → Bool → Bs
 | [], _ => []
 | c :: cs, first => (if first then [32, 105, 102, 32] else [44, 32]) ++ fmtC c ++ fmtCs cs false
def fmtR (r : Rl) : Bs := [114, 117, 108, 101, 32] ++ kx r.name ++ [58, 32] ++ fmtF r.l ++ [32, 61, 62, 32] ++ fmtF r.r ++ fmtCs r.conds true ++ [59, 10]
def fmtRs : List Rl → Bs
 | [] => []
 | r :: l => fmtR r ++ fmtRs l
def printF (l : List Rl) : Bs := if l.all implF then fmtRs l else []
theorem decG_lt (f : Nat) {n : Nat} (h : n < 10) : decG (f + 1) n = [UInt8.ofNat (48 + n)] := if_pos h
theorem decG_ge (f : Nat) {n : Nat} (h : ¬ n < 10) : decG (f + 1) n = decG f (n / 10) ++ [UInt8.ofNat (48 + n % 10)] := if_neg h
theorem decG_fuel : ∀ (f g n : Nat), n < 10 ^ (f + 1) → n < 10 ^ (g + 1) → decG (f + 1) n = decG (g + 1) n
 | 0, g, n, h, _ => by rw [decG_lt 0 (by simpa using h), decG_lt g (by simpa using h)]
 | f + 1, 0, n, _, h => by rw [decG_lt (f + 1) (by simpa using h), decG_lt 0 (by simpa using h)]
 | f + 1, g + 1, n, h, k => by
  by_cases hn : n < 10
  ·
   rw [decG_lt (f + 1) hn, decG_lt (g + 1) hn]
  ·
   rw [decG_ge (f + 1) hn, decG_ge (g + 1) hn, decG_fuel f g (n / 10) (by rw [Nat.div_lt_iff_lt_mul (by decide)]; rw [Nat.pow_succ] at h; exact h) (by rw [Nat.div_lt_iff_lt_mul (by decide)]; rw [Nat.pow_succ] at k; exact k)]
theorem decD_lt {n : Nat} (h : n < 10) : decD n = [UInt8.ofNat (48 + n)] := decG_lt 19 h
theorem decD_ge {n : Nat} (h : ¬ n < 10) (hn : n < 10 ^ 20) : decD n = decD (n / 10) ++ [UInt8.ofNat (48 + n % 10)] := by
 have e : decD n = decG 19 (n / 10) ++ [UInt8.ofNat (48 + n % 10)] := decG_ge 19 h
 rw [e, decG_fuel 18 19 (n / 10) (by omega) (by omega)]
 rfl
theorem decG_len : ∀ (f n : Nat), (decG f n).length ≤ f
 | 0, n => by simp [decG]
 | f + 1, n => by
  rw [decG]
  split
  ·
   simp
  ·
   rw [List.length_append]
   have := decG_len f (n / 10)
   simp; omega
theorem decD_len (n : Nat) : (decD n).length ≤ 20 := decG_len 20 n
theorem textF_len {n : Int} (_ : -9223372036854775808 ≤ n ∧ n ≤ 9223372036854775807) : (textF n).length ≤ 21 := by
 have := decD_len n.natAbs
 unfold textF
 split <;> simp <;> omega
theorem nameL_len5 : ∀ s ∈ nameL, s.length ≤ 5 := by decide
theorem condL_len7 : ∀ s ∈ condL, s.length ≤ 7 := by decide
theorem opNm_len (op : Int) : (opNm op).length ≤ 5 := by
 unfold opNm
 rcases Nat.lt_or_ge (op - 4).toNat nameL.length with h | h
 ·
  rw [List.getD, List.getElem?_eq_getElem h, Option.getD_some]; exact nameL_len5 _ (List.getElem_mem h)
 ·
  rw [List.getD, List.getElem?_eq_none h]; simp
theorem condNm_len (op : Int) : (condNm op).length ≤ 7 := by
 unfold condNm
 rcases Nat.lt_or_ge (op - 1).toNat condL.length with h | h
 ·
  rw [List.getD, List.getElem?_eq_getElem h, Option.getD_some]; exact condL_len7 _ (List.getElem_mem h)
 ·
  rw [List.getD, List.getElem?_eq_none h]; simp
inductive FmOk : Pt → Prop
 | var {v op imm iv : Int} {ks : List Pt} : 0 < v → v ≤ 100 → FmOk (.mk v op imm iv ks)
 | cst {v imm iv : Int} {ks : List Pt} : ¬ 0 < v → -9223372036854775808 ≤ imm → imm ≤ 9223372036854775807 → iv ≤ 100 → FmOk (.mk v 1 imm iv ks)
 | app {v op imm iv : Int} {ks : List Pt} : ¬ 0 < v → 4 ≤ op → op < 32 → -9223372036854775808 ≤ imm → imm ≤ 9223372036854775807 → iv ≤ 100 → (∀ k ∈ ks, FmOk k) → FmOk (.mk v op imm iv ks)
mutual
theorem fmtF_len : ∀ p : Pt, FmOk p → (fmtF p).length + 1 ≤ 30 * p.size
 | .mk v op imm iv ks, h => by
  have hs : (Pt.mk v op imm iv ks).size = 1 + Pt.sizeL ks := by rw [Pt.size_eq]; rfl
  rw [hs]
  unfold fmtF
  cases h with
  | var h1 h2 => rw [if_pos h1]; simp [vnF]; omega
  | cst h1 h2 h3 h4 =>
   rw [if_neg h1, if_pos rfl]
   have := textF_len ⟨h2, h3⟩
   split <;> simp [inF] <;> omega
  | app h1 h2 h3 h4 h5 h6 h7 =>
   rw [if_neg h1, if_neg (by omega)]
   have e1 := fmtL_len ks h7
   have e2 := opNm_len op
   have e3 := textF_len ⟨h4, h5⟩
   simp only [List.length_append, List.length_singleton]
   have e4 : (if 0 < iv then 46 :: inF iv else if immOp op = true then 46 :: textF imm else ([] : Bs)).length ≤ 22 := by
    split
    ·
     simp [inF]
    ·
     split <;> simp <;> omega
   omega
theorem fmtL_len : ∀ ks : List Pt, (∀ k ∈ ks, FmOk k) → (fmtL ks).length ≤ 30 * Pt.sizeL ks
 | [], _ => by simp [fmtL, Pt.sizeL]
 | k :: ks, h => by
  have e1 := fmtF_len k (h k List.mem_cons_self)
  have e2 := fmtL_len ks (fun q hq => h q (List.mem_cons_of_mem _ hq))
  simp only [fmtL, Pt.sizeL, List.cons_append, List.length_cons, List.length_append]
  omega
end
theorem fmtL_snoc (k : Pt) : ∀ ks : List Pt, fmtL (ks ++ [k]) = fmtL ks ++ (32 :: fmtF k)
 | [] => by simp [fmtL]
 | q :: ks => by simp [fmtL, fmtL_snoc k ks]
end Go.Proofs.Ytblkgjdhaibhgaa
namespace Go.Proofs.Ytblkgjdhaibhgaa
open Go.RowKit
theorem bstr_k (ns : List Int) : bstr ns = kstr (ns.map fun n => UInt8.ofNat n.toNat) := rfl
set_option maxRecDepth 100000 in
theorem rImmName_c (n : Int) (h0 : 0 < n) (h1 : n ≤ 100) (w : World) : Calls Try.prog 50 #[.int .i64 n] w fun e w' => e = .returned (.string (kstr (inF n))) ∧ Upd Non w w' := by
 have hc := run_str (P := Try.prog) (src := 48) (dst := 9) Try.underlying48 Try.underlying5 Try.underlying9 (ns := [107 + n - 1]) (c := 1) (Sl.new w 5 [.int .u8 (107 + n - 1)]) (n := 1) rfl
 have HE : Hid (bstr [107 + n - 1] = kstr (inF n)) := by
  show bstr _ = _
  rw [bstr_k]
  unfold inF
  rw [show [107 + n - 1].map (fun n => UInt8.ofNat n.toNat) = [UInt8.ofNat (106 + n.toNat)] by show [UInt8.ofNat (107 + n - 1).toNat] = _; rw [show (107 + n - 1).toNat = 106 + n.toNat by omega]]
 obtain ⟨s, Hs⟩ := nm (bstr [107 + n - 1])
 rw [Hs.out] at hc HE
 rw [← HE.out]
 clear Hs HE
 go_enter Try.func50, Try.ntmps50
 go_wp2_with fail
 go_ret
 exact ⟨rfl, Upd.refl.alloc _⟩
set_option maxRecDepth 100000 in
theorem rVarName_c (n : Int) (h0 : 0 < n) (h1 : n ≤ 100) (w : World) : Calls Try.prog 49 #[.int .i64 n] w fun e w' => e = .returned (.string (kstr (vnF n))) ∧ Upd Non w w' := by
 have hc := run_str (P := Try.prog) (src := 48) (dst := 9) Try.underlying48 Try.underlying5 Try.underlying9 (ns := [97 + n - 1]) (c := 1) (Sl.new w 5 [.int .u8 (97 + n - 1)]) (n := 1) rfl
 have HE : Hid (({ data := #[63] } : ByteArray) ++ bstr [97 + n - 1] = kstr (vnF n)) := by
  show _ ++ bstr _ = _
  rw [bstr_k]
  unfold vnF
  rw [show [97 + n - 1].map (fun n => UInt8.ofNat n.toNat) = [UInt8.ofNat (96 + n.toNat)] by show [UInt8.ofNat (97 + n - 1).toNat] = _; rw [show (97 + n - 1).toNat = 96 + n.toNat by omega]]
  exact kstr_app [63] _
 have hsz : (bstr [97 + n - 1]).size = 1 := by simp [bstr, ByteArray.size]
 obtain ⟨s, Hs⟩ := nm (bstr [97 + n - 1])
 rw [Hs.out] at hc HE hsz
 rw [← HE.out]
 clear Hs HE
 go_enter Try.func49, Try.ntmps49
 go_wp2_with fail
 go_ret
 exact ⟨rfl, Upd.refl.alloc _⟩
theorem slice20 (g i : Nat) (hi : i < 20) (W : World) : (Instr.sliceAt 121 (.pointer (some ⟨g, 0, none⟩)) (some (.int .i64 i)) none none).run Try.prog W = .ok (.slice (some ⟨g, i, none⟩) (20 - i) (20 - i)) W := by
 have hal : Try.prog.arrayLen 121 = 20 := by kernel_rfl
 have hel : Try.prog.elem 121 = 5 := by kernel_rfl
 have ht : Try.prog.underlying 121 = some (.array (Try.prog.arrayLen 121) (Try.prog.elem 121)) := by rw [hal, hel]; exact Try.underlying121
 have hsz : (sizeOf 5).run Try.prog W = .ok 1 W := by
  have h : (Try.prog.info? 5).map (·.size) = some 1 := by kernel_rfl
  cases hi : Try.prog.info? 5 with
  | none => rw [hi] at h; cases h
  | some i => rw [hi] at h; simp at h; simp [sizeOf, typeInfo, hi, h]
 rw [run_sliceAt_array_l W 121 ⟨g, 0, none⟩ ht .i64 i (by omega) (by rw [hal]; omega), hal, hel, hsz]
 have hne : ¬ 20 = i := by omega
 simp [slicedAt, Result.andThen, hne, Addr.add_lit]
theorem bstr_ub (L : Bs) : bstr (L.map fun b => (b.toNat : Int)) = kstr L := by
 rw [bstr_k, List.map_map]
 congr 1
 have : ((fun n : Int => UInt8.ofNat n.toNat) ∘ fun b : UInt8 => (b.toNat : Int)) = id := by funext b; simp
 rw [this, List.map_id]
def ub (b : UInt8) : Value := .int .u8 b.toNat
theorem Sl.drop_ {W : World} {g i : Nat} {t : TypeId} {cs : Array Value} {L : Bs} (hb : Blk W g t cs) (h : cs.toList.drop i = L.map ub) : Sl W (fun _ => True) (some ⟨g, i, none⟩) ((L.map fun b => (b.toNat : Int)).map fun x => .int .u8 x) := by
 refine .inr ⟨_, _, rfl, trivial, fun k hk => ?_⟩
 have hk2 : k < L.length := by simpa using hk
 rw [hb.cell]
 have h1 : cs[i + k]? = (cs.toList.drop i)[k]? := by rw [List.getElem?_drop]; simp
 rw [h1, h]
 simp [ub, hk2]
set_option maxRecDepth 100000 in
set_option maxHeartbeats 1000000 in
theorem wDigits_c (n : Nat) (hn : n ≤ 18446744073709551615) (w : World) : Calls Try.prog 75 #[.int .u64 n] w fun e w' => e = .returned (.string (kstr (decD n))) ∧ Upd Non w w' := by
 go_enter Try.func75, Try.ntmps75
 go_wp2_with fail
 go_loopg [0, 4] 20 (fun g nv av wr => ∃ (j m : Nat) (suf : Bs) (cs : Array Value), Hid (g = j) ∧ 1 ≤ j ∧ j ≤ 20 ∧ nv = .int .u64 m ∧ av = .int .i64 j ∧ Hid (Blk wr w.heap.size 121 cs) ∧ cs.size = 20 ∧ Hid (cs.toList.drop j = suf.map ub) ∧ Hid (decD n = decD m ++ suf) ∧ m ≤ 18446744073709551615 ∧ Hid (m < 10 ^ j) ∧ Hid (j = 20 ∨ 0 < m) ∧ Hid (Upd Non w wr))
 case atStart => exact ⟨20, n, [], _, rfl, by omega, by omega, rfl, rfl, Blk.new _ _ _, rfl, rfl, by show _ = _; rw [List.append_nil], hn, by show n < 10 ^ 20; omega, .inl rfl, Upd.refl.alloc _⟩
 case round =>
  obtain ⟨j, m, suf, cs, Hg, hj1, hj2, rfl, rfl, Hb, hcs, HD, HN, hm64, HM, HZ, HU⟩ := hrel
  obtain ⟨i, rfl⟩ : ∃ i, j = i + 1 := ⟨j - 1, by omega⟩
  have hil : i < cs.size := by omega
  have ci := Hb.out.cell i
  rw [Array.getElem?_eq_getElem hil] at ci
  have cf := Hb.out.frozen i
  obtain ⟨old, Hold⟩ := nm cs[i]
  rw [Hold.out] at ci
  obtain ⟨W, HW⟩ := nm (wr.setCell ⟨w.heap.size, i, none⟩ (.int .u8 (48 + (m : Int) % 10)))
  have e1 := HW.out
  have hb2 : Blk W w.heap.size 121 (cs.setIfInBounds i (.int .u8 (48 + (m : Int) % 10))) := by rw [← e1]; exact Hb.out.set_ i _
  have hu2 : Upd Non w W := by rw [← e1]; exact HU.out.trans (updCell _ _ _ _) (fun k hk e => by omega)
  have hd2 : (cs.setIfInBounds i (.int .u8 (48 + (m : Int) % 10))).toList.drop i = (UInt8.ofNat (48 + m % 10) :: suf).map ub := by
   have h1 : i < cs.toList.length := by simpa using hil
   rw [Array.toList_setIfInBounds, List.drop_set, if_neg (by omega), Nat.sub_self, List.drop_eq_getElem_cons h1, HD.out]
   simp only [List.set_cons_zero, List.map_cons, ub]
   congr 2
   simp
   omega
  have HB2 := Lib.hid hb2
  have HU2 := Lib.hid hu2
  have HD2 := Lib.hid hd2
  have hsl := slice20 w.heap.size i (by omega) W
  have hcv := run_str (P := Try.prog) (w := W) (F := fun _ => True) (src := 48) (dst := 9) Try.underlying48 Try.underlying5 Try.underlying9 (A := some ⟨w.heap.size, i, none⟩) (n := 20 - i) (c := 20 - i) (ns := (UInt8.ofNat (48 + m % 10) :: suf).map fun b => (b.toNat : Int))
   (Sl.drop_ hb2 hd2) (by
    have := congrArg List.length hd2
    simp only [List.length_drop, Array.length_toList, Array.size_setIfInBounds, List.length_map] at this
    simp only [List.length_map]
    omega)
  rw [bstr_ub] at hcv
  clear hb2 hu2 hd2
  by_cases hm : m < 10
  ·
   have tq : ((m : Int) / 10 == 0) = true := by simp; omega
   obtain ⟨str, Hstr⟩ := nm (kstr (UInt8.ofNat (48 + m % 10) :: suf))
   rw [Hstr.out] at hcv
   go_wp2_with fail
   go_ret
   refine ⟨?_, HU2.out⟩
   rw [HN.out, decD_lt hm, ← Hstr.out, Nat.mod_eq_of_lt hm]
   rfl
  ·
   have tq : ((m : Int) / 10 == 0) = false := by simp; omega
   clear hsl hcv
   go_wp2_with fail
   go_roundg i
   case measure => rw [Hg.out]; omega
   case rel =>
    have hmn : m / 10 < 10 ^ i := by rw [Nat.div_lt_iff_lt_mul (by decide)]; have := HM.out; rw [Nat.pow_succ] at this; exact this
    refine ⟨i, m / 10, UInt8.ofNat (48 + m % 10) :: suf, _, rfl, ?_, by omega, by go_num, rfl, HB2.out, by simpa using hcs, HD2.out, ?_, by omega, hmn, .inr (by omega), HU2.out⟩
    ·
     rcases Nat.eq_zero_or_pos i with q | q
     ·
      subst q; simp at hmn; omega
     ·
      exact q
    ·
     show decD n = _
     rw [HN.out, decD_ge hm (by omega), List.append_assoc]
     rfl
set_option maxRecDepth 100000 in
theorem wText_c (n : Int) (h0 : -9223372036854775808 ≤ n) (h1 : n ≤ 9223372036854775807) (w : World) : Calls Try.prog 51 #[.int .i64 n] w fun e w' => e = .returned (.string (kstr (textF n))) ∧ Upd Non w w' := by
 have C := Lib.hid (wDigits_c n.natAbs (by omega) w)
 have HL : Hid ((kstr (decD n.natAbs)).size ≤ 20) := by
  show _ ≤ _
  rw [← kx_len, kx_kstr]
  exact decD_len _
 have HE : Hid (kstr (textF n) = if n < 0 then ({ data := #[45] } : ByteArray) ++ kstr (decD n.natAbs) else kstr (decD n.natAbs)) := by
  show _ = _
  unfold textF
  split
  ·
   exact (kstr_app [45] _).symm
  ·
   rfl
 obtain ⟨s, Hs⟩ := nm (kstr (decD n.natAbs))
 obtain ⟨t, Ht⟩ := nm (kstr (textF n))
 rw [Hs.out] at C HL HE
 rw [Ht.out] at HE ⊢
 have hl := HL.out
 by_cases hn : n < 0
 ·
  have t0 : decide (n < 0) = true := decide_eq_true hn
  have HR : Hid (t = ({ data := #[45] } : ByteArray) ++ s) := by show _ = _; rw [HE.out, if_pos hn]
  rw [show ((n.natAbs : Nat) : Int) = -n by omega] at C
  clear HE HL Hs Ht
  go_enter Try.func51, Try.ntmps51
  have hw : IntKind.u64.wrap (-IntKind.u64.wrap n) = -n := by
   simp [IntKind.wrap, IntKind.bits, IntKind.signed]
   omega
  go_wp2_with fail
  refine C.out.mono ?_
  rintro e w2 ⟨rfl, hu⟩
  clear C hw
  go_wp2_with fail
  go_ret
  exact ⟨by rw [HR.out]; rfl, hu⟩
 ·
  have t0 : decide (n < 0) = false := decide_eq_false hn
  have HR : Hid (t = s) := by show _ = _; rw [HE.out, if_neg hn]
  rw [show ((n.natAbs : Nat) : Int) = n by omega] at C
  clear HE HL Hs Ht
  go_enter Try.func51, Try.ntmps51
  go_wp2_with fail
  refine C.out.mono ?_
  rintro e w2 ⟨rfl, hu⟩
  clear C
  go_wp2_with fail
  go_ret
  exact ⟨by rw [HR.out]; rfl, hu⟩
end Go.Proofs.Ytblkgjdhaibhgaa
namespace Go.Proofs.Ytblkgjdhaibhgaa
open Go.RowKit
set_option maxRecDepth 100000 in
theorem tName_c (op : Int) (h0 : 4 ≤ op) (h1 : op < 32) (w : World) : Calls Try.prog 52 #[.int .i64 op] w fun e w' => e = .returned (.tuple #[.string (kstr (opNm op)), .bool true]) ∧ Upd Non w w' := by
 have C := Lib.hid (tnames_c w)
 obtain ⟨k, rfl⟩ : ∃ k : Nat, op = 4 + k := ⟨(op - 4).toNat, by omega⟩
 have hk : k < 28 := by omega
 have hkl : k < nameL.length := hk
 have HN : Hid (opNm (4 + (k : Int)) = nameL[k]) := by
  show _ = _
  unfold opNm
  rw [show (4 + (k : Int) - 4).toNat = k by omega, List.getD, List.getElem?_eq_getElem hkl, Option.getD_some]
 rw [HN.out]
 obtain ⟨nk, Hnk⟩ := nm (kstr nameL[k])
 rw [Hnk.out]
 have td : decide (28 ≤ (k : Int)) = false := decide_eq_false (by omega)
 have t1 : decide (4 + (k : Int) < 4) = false := decide_eq_false (by omega)
 have t3 : 4 + (k : Int) - 4 = (k : Int) := by omega
 clear HN h0 h1
 go_enter Try.func52, Try.ntmps52
 go_wp2_with fail
 refine C.out.mono ?_
 rintro e W ⟨rfl, hs, hu⟩
 obtain ⟨b, o, e, _, _, hc⟩ := hs.at_ (k := k) (by simpa [sCells] using hkl)
 injection e with e
 injection e with e1 e2
 subst e1 e2
 have hc2 : W.cell? ⟨w.heap.size, k, none⟩ = some (.string (kstr nameL[k])) := by rw [Nat.zero_add] at hc; rw [hc]; simp [sCells]
 rw [Hnk.out] at hc2
 clear C hs hc
 go_wp2_with fail
 go_ret2
 exact ⟨rfl, hu⟩
theorem fmt_eq (p : Pt) : fmtF p = if 0 < p.v then vnF p.v else if p.op = 1 then (if 0 < p.iv then 36 :: inF p.iv else textF p.imm)
  else [40] ++ opNm p.op ++ (if 0 < p.iv then 46 :: inF p.iv else if immOp p.op = true then 46 :: textF p.imm else []) ++ fmtL p.kids ++ [41] := by
 cases p
 rw [fmtF]
 rfl
theorem FmOk.inv {p : Pt} (h : FmOk p) : (0 < p.v ∧ p.v ≤ 100) ∨ (¬ 0 < p.v ∧ p.op = 1 ∧ -9223372036854775808 ≤ p.imm ∧ p.imm ≤ 9223372036854775807 ∧ p.iv ≤ 100) ∨ (¬ 0 < p.v ∧ 4 ≤ p.op ∧ p.op < 32 ∧ -9223372036854775808 ≤ p.imm ∧ p.imm ≤ 9223372036854775807 ∧ p.iv ≤ 100 ∧ ∀ k ∈ p.kids, FmOk k) := by
 cases h with
 | var h1 h2 => exact .inl ⟨h1, h2⟩
 | cst h1 h2 h3 h4 => exact .inr (.inl ⟨h1, rfl, h2, h3, h4⟩)
 | app h1 h2 h3 h4 h5 h6 h7 => exact .inr (.inr ⟨h1, h2, h3, h4, h5, h6, h7⟩)
theorem ksz {L : Bs} {n : Nat} (h : L.length ≤ n) : (kstr L).size ≤ n := by rw [← kx_len, kx_kstr]; exact h
set_option maxRecDepth 100000 in
set_option maxHeartbeats 2000000 in
theorem rFormat_c (p : Pt) : ∀ (w : World) (F : Nat → Prop) (KA : Option Addr) (kc : Nat), PtK w F p KA kc → FmOk p → p.size ≤ 1000000000000 →
  Calls Try.prog 21 #[pv p KA kc] w fun e w' => e = .returned (.string (kstr (fmtF p))) ∧ Upd Non w w' := by
 induction p using Pt.ind with
 | h p ih =>
  intro w F KA kc hp hok hs
  have hse := Pt.size_eq p
  have hle := Pt.len_le p.kids
  have HI := Lib.hid ih
  obtain ⟨W, HW⟩ := nm (w.alloc (.cells #[.int .i64 p.v, .int .i64 p.op, .int .i64 p.imm, .int .i64 p.iv, .slice KA p.kids.length kc] 30))
  have hU : Upd Non w W := by rw [← HW.out]; exact Upd.refl.alloc _
  have hb : Blk W w.heap.size 30 #[.int .i64 p.v, .int .i64 p.op, .int .i64 p.imm, .int .i64 p.iv, .slice KA p.kids.length kc] := by rw [← HW.out]; exact Blk.new _ _ _
  have e0 := HW.out
  have c0 := hb.cell 0
  have c1 := hb.cell 1
  have c2 := hb.cell 2
  have c3 := hb.cell 3
  have HB := Lib.hid hb
  have HF := Lib.hid (fmt_eq p)
  have HLN := Lib.hid (fmtF_len p hok)
  obtain ⟨res, Hres⟩ := nm (fmtF p)
  rw [Hres.out] at HF HLN ⊢
  have hpW := PtK.upd hU (fun _ _ _ f => f) p KA kc hp
  have HPW := Lib.hid hpW
  have HS := Lib.hid hse
  have HU := Lib.hid hU
  unfold pv
  clear ih hse hp hb hpW hU
  rcases hok.inv with ⟨a1, a2⟩ | ⟨a1, a2, a3, a4, a5⟩ | ⟨a1, a2, a3, a4, a5, a6, a7⟩
  ·
   have tv : decide (0 < p.v) = true := decide_eq_true a1
   have HR : Hid (res = vnF p.v) := by show _ = _; rw [HF.out, if_pos a1]
   have CV := Lib.hid (fun W => rVarName_c p.v a1 a2 W)
   rw [HR.out]
   clear a1 a2 hok hle
   obtain ⟨v, Hv⟩ := nm p.v
   rw [Hv.out] at c0 tv e0 CV ⊢
   clear c1 c2 c3
   go_enter Try.func21, Try.ntmps21
   go_wp2_with fail
   refine (CV.out _).mono ?_
   rintro e w2 ⟨rfl, hu⟩
   clear CV e0
   go_wp2_with fail
   go_ret
   exact ⟨rfl, HU.out.then_non hu⟩
  ·
   have tv : decide (0 < p.v) = false := decide_eq_false a1
   by_cases hi : 0 < p.iv
   ·
    have ti : decide (0 < p.iv) = true := decide_eq_true hi
    have HR : Hid (res = 36 :: inF p.iv) := by show _ = _; rw [HF.out, if_neg a1, if_pos a2, if_pos hi]
    have CV := Lib.hid (fun W => rImmName_c p.iv hi a5 W)
    have hz : (kstr (inF p.iv)).size ≤ 1 := ksz (Nat.le_refl _)
    have HA : Hid (({ data := #[36] } : ByteArray) ++ kstr (inF p.iv) = kstr res) := by show _ = _; rw [HR.out]; exact kstr_app [36] _
    rw [a2] at c1 e0
    obtain ⟨str, Hstr⟩ := nm (kstr (inF p.iv))
    rw [Hstr.out] at CV HA hz
    rw [a2]
    clear a1 a2 a3 a4 a5 hok hle HF hi
    obtain ⟨v, Hv⟩ := nm p.v
    obtain ⟨iv, Hiv⟩ := nm p.iv
    rw [Hv.out, Hiv.out] at e0
    rw [Hv.out] at c0 tv
    rw [Hiv.out] at c3 ti CV
    rw [Hv.out, Hiv.out]
    clear c2
    go_enter Try.func21, Try.ntmps21
    go_wp2_with fail
    refine (CV.out _).mono ?_
    rintro e w2 ⟨rfl, hu⟩
    clear CV e0
    go_wp2_with fail
    go_ret
    exact ⟨by rw [← HA.out]; rfl, HU.out.then_non hu⟩
   ·
    have ti : decide (0 < p.iv) = false := decide_eq_false hi
    have HR : Hid (res = textF p.imm) := by show _ = _; rw [HF.out, if_neg a1, if_pos a2, if_neg hi]
    have CV := Lib.hid (fun W => wText_c p.imm a3 a4 W)
    rw [HR.out]
    rw [a2] at c1 e0
    rw [a2]
    clear a1 a2 a3 a4 a5 hok hle HF hi
    obtain ⟨v, Hv⟩ := nm p.v
    obtain ⟨iv, Hiv⟩ := nm p.iv
    obtain ⟨imm, Himm⟩ := nm p.imm
    rw [Hv.out, Hiv.out, Himm.out] at e0
    rw [Hv.out] at c0 tv
    rw [Hiv.out] at c3 ti
    rw [Himm.out] at c2 CV
    rw [Hv.out, Hiv.out, Himm.out]
    go_enter Try.func21, Try.ntmps21
    go_wp2_with fail
    refine (CV.out _).mono ?_
    rintro e w2 ⟨rfl, hu⟩
    clear CV e0
    go_wp2_with fail
    go_ret
    exact ⟨rfl, HU.out.then_non hu⟩
  ·
   have tv : decide (0 < p.v) = false := decide_eq_false a1
   have tp1 : (p.op == 1) = false := by simp; omega
   have HR : Hid (res = [40] ++ opNm p.op ++ (if 0 < p.iv then 46 :: inF p.iv else if immOp p.op = true then 46 :: textF p.imm else []) ++ fmtL p.kids ++ [41]) := by show _ = _; rw [HF.out, if_neg a1, if_neg (by omega)]
   have HBD := Lib.hid hok
   obtain ⟨suf, Hsuf⟩ := nm (if 0 < p.iv then 46 :: inF p.iv else if immOp p.op = true then 46 :: textF p.imm else ([] : Bs))
   have hsufl : suf.length ≤ 22 := by
    rw [← Hsuf.out]
    have := textF_len ⟨a4, a5⟩
    split
    ·
     simp [inF]
    ·
     split <;> simp <;> omega
   rw [Hsuf.out] at HR
   have hnl := opNm_len p.op
   have CN := Lib.hid (tName_c p.op a2 a3 W)
   obtain ⟨nmb, Hnmb⟩ := nm (opNm p.op)
   rw [Hnmb.out] at HR hnl CN
   have hz : (kstr nmb).size ≤ 5 := ksz hnl
   have H5 : Hid (({ data := #[40] } : ByteArray) ++ kstr nmb = kstr ([40] ++ nmb)) := kstr_app [40] nmb
   obtain ⟨ns, Hns⟩ := nm (kstr nmb)
   rw [Hns.out] at CN hz H5
   have hz5 : (kstr ([40] ++ nmb)).size ≤ 6 := ksz (by simp; omega)
   obtain ⟨s5, Hs5⟩ := nm (kstr ([40] ++ nmb))
   rw [Hs5.out] at H5 hz5
   have hk := HBD.out
   have HKS : Hid (∀ k ∈ p.kids, FmOk k) := a7
   have HIM : Hid (-9223372036854775808 ≤ p.imm ∧ p.imm ≤ 9223372036854775807 ∧ p.iv ≤ 100) := ⟨a4, a5, a6⟩
   have CI := Lib.hid (fun (h : 0 < p.iv) W => rImmName_c p.iv h a6 W)
   have CT := Lib.hid (fun W => wText_c p.imm a4 a5 W)
   have CH := Lib.hid (fun W => rHasImm_c p.op W)
   have HSP : Hid (suf = if 0 < p.iv then 46 :: inF p.iv else if immOp p.op = true then 46 :: textF p.imm else ([] : Bs)) := Hsuf.out.symm
   have hpo : p.op ≠ 1 := by omega
   clear a1 a2 a3 a4 a5 a6 a7 hok hk HF Hsuf
   obtain ⟨v, Hv⟩ := nm p.v
   obtain ⟨iv, Hiv⟩ := nm p.iv
   obtain ⟨imm, Himm⟩ := nm p.imm
   obtain ⟨op, Hop⟩ := nm p.op
   obtain ⟨n, Hn⟩ := nm p.kids.length
   rw [Hv.out, Hiv.out, Himm.out, Hop.out, Hn.out] at e0
   rw [Hv.out] at c0 tv
   rw [Hiv.out] at c3 CI
   rw [Hop.out] at c1 tp1 CN CH
   rw [Himm.out] at c2 CT
   rw [Hiv.out, Himm.out, Hop.out] at HSP
   rw [Hn.out] at hle
   rw [Hv.out, Hiv.out, Himm.out, Hop.out, Hn.out]
   have hn12 : n ≤ 1000000000000 := by have := HS.out; omega
   clear hpo
   go_enter Try.func21, Try.ntmps21
   go_wp2_with fail
   refine CN.out.mono ?_
   rintro e w2 ⟨rfl, hu2⟩
   have d2 := cell_upd c2 hu2 (fun f => f)
   have d3 := cell_upd c3 hu2 (fun f => f)
   have d1 := cell_upd c1 hu2 (fun f => f)
   have h5 := H5.out
   clear CN e0 c0 c1 c2 c3
   obtain ⟨D, HD⟩ := nm (decide (0 < iv))
   have tD := HD.out
   go_upto_if 45 with fail
   clear tD
   go_cut [5] (fun s wx => s = .string (kstr ([40] ++ nmb ++ suf)) ∧ Upd Non W wx)
   case first =>
    cases D with
    | true =>
     have hi : 0 < iv := of_decide_eq_true HD.out
     have CII := Lib.hid (CI.out hi)
     have HSF : Hid (suf = 46 :: inF iv) := by show _ = _; rw [HSP.out, if_pos hi]
     have hzi : (kstr (inF iv)).size ≤ 1 := ksz (Nat.le_refl _)
     have HE : Hid (s5 ++ (({ data := #[46] } : ByteArray) ++ kstr (inF iv)) = kstr ([40] ++ nmb ++ suf)) := by
      show _ = _
      rw [← Hs5.out, HSF.out, show ({ data := #[46] } : ByteArray) ++ kstr (inF iv) = kstr (46 :: inF iv) from kstr_app [46] _, kstr_app]
     obtain ⟨im, Him⟩ := nm (kstr (inF iv))
     rw [Him.out] at CII hzi HE
     clear hi
     go_wp2_with fail
     refine (CII.out _).mono ?_
     rintro e w3 ⟨rfl, hu3⟩
     clear CII
     go_wp2_with fail
     go_meet
     case rel => exact ⟨by rw [← HE.out], hu2.then_non hu3⟩
    | false =>
     have hi : ¬ 0 < iv := of_decide_eq_false HD.out
     obtain ⟨hm, Hhm⟩ := nm (immOp op)
     have CHH := Lib.hid (CH.out)
     rw [Hhm.out] at CHH
     cases hm with
     | true =>
      have HSF : Hid (suf = 46 :: textF imm) := by show _ = _; rw [HSP.out, if_neg hi, if_pos Hhm.out]
      have hzi : (kstr (textF imm)).size ≤ 21 := ksz (textF_len (by rw [← Himm.out]; exact ⟨HIM.out.1, HIM.out.2.1⟩))
      have HE : Hid (s5 ++ (({ data := #[46] } : ByteArray) ++ kstr (textF imm)) = kstr ([40] ++ nmb ++ suf)) := by
       show _ = _
       rw [← Hs5.out, HSF.out, show ({ data := #[46] } : ByteArray) ++ kstr (textF imm) = kstr (46 :: textF imm) from kstr_app [46] _, kstr_app]
      have CTT := Lib.hid (CT.out)
      obtain ⟨im, Him⟩ := nm (kstr (textF imm))
      rw [Him.out] at CTT hzi HE
      clear hi
      go_wp2_with fail
      refine (CHH.out _).mono ?_
      rintro e w3 ⟨rfl, rfl⟩
      go_wp2_with fail
      refine (CTT.out _).mono ?_
      rintro e w4 ⟨rfl, hu3⟩
      clear CTT
      go_wp2_with fail
      go_meet
      case rel => exact ⟨by rw [← HE.out], hu2.then_non hu3⟩
     | false =>
      have HE : Hid (s5 = kstr ([40] ++ nmb ++ suf)) := by show _ = _; rw [← Hs5.out, HSP.out, if_neg hi, if_neg (by rw [Hhm.out]; decide), List.append_nil]
      clear hi
      go_wp2_with fail
      refine (CHH.out _).mono ?_
      rintro e w3 ⟨rfl, rfl⟩
      go_wp2_with fail
      go_meet
      case rel => exact ⟨by rw [← HE.out], hu2⟩
   case rest =>
    obtain ⟨rfl, hwc⟩ := hcut
    clear d1 d2 d3 h5 CI CT CH HSP
    have hbw := HB.out.upd hwc (fun f => f)
    rw [Hn.out] at hbw
    have c4 := hbw.cell 4
    have HPC := Lib.hid (PtK.upd hwc (fun _ _ _ f => f) p KA kc HPW.out)
    have HUC := Lib.hid (HU.out.then_non hwc)
    obtain ⟨pre, Hpre⟩ := nm ([40] ++ nmb ++ suf)
    have hpl : pre.length ≤ 28 := by rw [← Hpre.out]; simp; omega
    rw [Hpre.out] at HR ⊢
    clear hbw hwc hu2
    go_wp2_with fail
    go_loopg [5, 7, 64] n (fun g v _ i wr => ∃ k : Nat, Hid (g = n - k) ∧ k ≤ n ∧ i = .int .i64 k ∧ v = .string (kstr (pre ++ fmtL (p.kids.take k))) ∧ Hid (Upd Non wc wr))
    case atStart => exact ⟨0, rfl, by omega, rfl, by simp [fmtL], Upd.refl⟩
    case round =>
     obtain ⟨k, Hg, hk, rfl, rfl, Hu⟩ := hrel
     have hkt := Pt.sizeL_take_le p.kids k
     have hfl := fmtL_len (p.kids.take k) (fun q hq => HKS.out q (List.mem_of_mem_take hq))
     have hz0 : (kstr (pre ++ fmtL (p.kids.take k))).size ≤ 100000000000000 := ksz (by rw [List.length_append]; have := HS.out; omega)
     by_cases hlt : k < n
     ·
      have hkl : k < p.kids.length := by rw [Hn.out]; exact hlt
      obtain ⟨b, o, rfl, hF, hbw, KB, kd, h0, h1, h2, h3, h4, h5⟩ := (PtK.upd Hu.out (fun _ _ _ f => f) p KA kc HPC.out).at_ hkl
      have hks : p.kids[k].size ≤ 1000000000000 := by have := Pt.kids_lt (List.getElem_mem hkl); omega
      have hmem0 := List.getElem_mem hkl
      have HTK : Hid (p.kids.take (k + 1) = p.kids.take k ++ [p.kids[k]]) := take_snoc' hkl
      generalize p.kids[k] = q at *
      have hmem : q ∈ p.kids := by assumption
      obtain ⟨W3, HW3⟩ := nm (wr.alloc (.cells #[.int .i64 q.v, .int .i64 q.op, .int .i64 q.imm, .int .i64 q.iv, .slice KB q.kids.length kd] 30))
      have hq := PtK.upd (Upd.refl.alloc (S := Non) (.cells #[.int .i64 q.v, .int .i64 q.op, .int .i64 q.imm, .int .i64 q.iv, .slice KB q.kids.length kd] 30)) (fun _ _ _ f => f) q KB kd h5
      have C1 := Lib.hid (HI.out q hmem _ F KB kd hq (HKS.out q hmem) hks)
      unfold pv at C1
      have hql := fmtF_len q (HKS.out q hmem)
      have hzq : (kstr (fmtF q)).size ≤ 100000000000000 := ksz (by omega)
      have HE : Hid (kstr (pre ++ fmtL (p.kids.take k)) ++ (({ data := #[32] } : ByteArray) ++ kstr (fmtF q)) = kstr (pre ++ fmtL (p.kids.take (k + 1)))) := by
       show _ = _
       rw [HTK.out, fmtL_snoc, show ({ data := #[32] } : ByteArray) ++ kstr (fmtF q) = kstr (32 :: fmtF q) from kstr_app [32] _, kstr_app, List.append_assoc]
      obtain ⟨sq, Hsq⟩ := nm (kstr (fmtF q))
      obtain ⟨sk, Hsk⟩ := nm (kstr (pre ++ fmtL (p.kids.take k)))
      rw [Hsq.out] at C1 hzq HE
      rw [Hsk.out] at hz0 HE ⊢
      clear hkt hfl h5 hq hql hmem hmem0 hks
      go_wp2_with fail
      refine C1.out.mono ?_
      rintro e w4 ⟨rfl, hu4⟩
      clear C1
      go_wp2_with fail
      go_roundg (n - (k + 1))
      case measure => rw [Hg.out]; omega
      case rel => exact ⟨k + 1, rfl, by omega, by go_num, by rw [← HE.out], (Hu.out.alloc _).then_non hu4⟩
     ·
      obtain rfl : n = k := by omega
      have HE : Hid (kstr (pre ++ fmtL (p.kids.take n)) ++ ({ data := #[41] } : ByteArray) = kstr res) := by
       show _ = _
       rw [← Hn.out, List.take_length, HR.out]
       exact kstr_app _ [41]
      obtain ⟨sk, Hsk⟩ := nm (kstr (pre ++ fmtL (p.kids.take n)))
      rw [Hsk.out] at hz0 HE ⊢
      clear hkt hfl
      go_wp2_with fail
      go_ret
      exact ⟨by rw [← HE.out]; rfl, HUC.out.then_non Hu.out⟩
end Go.Proofs.Ytblkgjdhaibhgaa
namespace Go.Proofs.Ytblkgjdhaibhgaa
open Go.RowKit
structure CdFm (c : Cd) : Prop where
 k0 : 1 ≤ c.kind
 k1 : c.kind ≤ 6
 a0 : 0 < c.a
 a1 : c.a ≤ 100
 b0 : 4 ≤ c.kind → 0 < c.b
 b1 : 4 ≤ c.kind → c.b ≤ 100
 n0 : -9223372036854775808 ≤ c.n
 n1 : c.n ≤ 9223372036854775807
theorem fmtC_len {c : Cd} (h : CdFm c) : (fmtC c).length ≤ 40 := by
 have e1 := condNm_len c.kind
 have e2 := textF_len ⟨h.n0, h.n1⟩
 unfold fmtC
 simp only [List.length_append, List.length_singleton]
 have : (if c.kind = 1 then vnF c.a else if c.kind = 4 then vnF c.a ++ [32] ++ vnF c.b else if c.kind = 5 then vnF c.a ++ [32] ++ inF c.b else if c.kind = 6 then inF c.a ++ [32] ++ inF c.b else vnF c.a ++ [32] ++ textF c.n).length ≤ 24 := by
  repeat' split
  all_goals simp [vnF, inF]
  all_goals omega
 omega
theorem catF {a b c : Bs} : (kstr a ++ kstr b ++ ({ data := #[32] } : ByteArray)) ++ kstr c = kstr (a ++ (b ++ [32] ++ c)) := by
 rw [show ({ data := #[32] } : ByteArray) = kstr [32] from rfl, kstr_app, kstr_app, kstr_app]
 simp
set_option maxRecDepth 100000 in
set_option maxHeartbeats 2000000 in
theorem rFormatCond_c (c : Cd) (h : CdFm c) (w : World) : Calls Try.prog 22 #[.agg #[.int .i64 c.kind, .int .i64 c.a, .int .i64 c.b, .int .i64 c.n]] w fun e w' => e = .returned (.string (kstr (fmtC c))) ∧ Upd Non w w' := by
 obtain ⟨W, HW⟩ := nm (w.alloc (.cells #[.int .i64 c.kind, .int .i64 c.a, .int .i64 c.b, .int .i64 c.n] 66))
 have hU : Upd Non w W := by rw [← HW.out]; exact Upd.refl.alloc _
 have hb : Blk W w.heap.size 66 #[.int .i64 c.kind, .int .i64 c.a, .int .i64 c.b, .int .i64 c.n] := by rw [← HW.out]; exact Blk.new _ _ _
 have e0 := HW.out
 have HU := Lib.hid hU
 have HB := Lib.hid hb
 have H := Lib.hid h
 have c0 := hb.cell 0
 have C := Lib.hid (fun W => condNames_c W)
 have hk0 := h.k0
 have hk1 := h.k1
 have HF : Hid (fmtC c = (condNm c.kind ++ [32]) ++ (if c.kind = 1 then vnF c.a else if c.kind = 4 then vnF c.a ++ [32] ++ vnF c.b else if c.kind = 5 then vnF c.a ++ [32] ++ inF c.b else if c.kind = 6 then inF c.a ++ [32] ++ inF c.b else vnF c.a ++ [32] ++ textF c.n)) := rfl
 obtain ⟨res, Hres⟩ := nm (fmtC c)
 rw [Hres.out] at HF ⊢
 have hzn : (kstr (condNm c.kind)).size ≤ 7 := ksz (condNm_len _)
 have hz3 : (kstr (condNm c.kind ++ [32])).size ≤ 8 := ksz (by have := condNm_len c.kind; simp; omega)
 have h3 : kstr (condNm c.kind) ++ ({ data := #[32] } : ByteArray) = kstr (condNm c.kind ++ [32]) := kstr_app _ [32]
 obtain ⟨j, hj⟩ : ∃ j : Nat, c.kind = 1 + j := ⟨(c.kind - 1).toNat, by omega⟩
 have hj6 : j < 6 := by omega
 have hjl : j < condL.length := hj6
 have HN : Hid (condNm c.kind = condL[j]) := by
  show _ = _
  unfold condNm
  rw [show (c.kind - 1).toNat = j by omega, List.getD, List.getElem?_eq_getElem hjl, Option.getD_some]
 have tj : 1 + (j : Int) - 1 = (j : Int) := by omega
 have hwj : IntKind.i64.wrap (j : Int) = (j : Int) := by
  simp [IntKind.wrap, IntKind.bits, IntKind.signed]
  omega
 have hlt6 : (j : Int) < 6 := by omega
 have HJ := Lib.hid hj
 obtain ⟨ns, Hns⟩ := nm (kstr (condNm c.kind))
 obtain ⟨s3, Hs3⟩ := nm (kstr (condNm c.kind ++ [32]))
 rw [Hns.out] at hzn h3
 rw [Hs3.out] at hz3 h3
 rw [hj] at c0 e0
 rw [hj]
 clear hU hb h hj hk0 hk1
 go_enter Try.func22, Try.ntmps22
 go_upto_region 1 with fail
 go_cut [3] (fun s wx => s = .string s3 ∧ Upd Non W wx)
 case first =>
  obtain ⟨wD, HwD⟩ := nm W.drew
  have uD : Upd Non W wD := by rw [← HwD.out]; exact Upd.refl.drew
  refine wp_region_held_drew (S := fun w' => w'.cell? ⟨w.heap.size, 0, none⟩ = some (.int .i64 (1 + (j : Int)))) (by kernel_rfl) (by rw [HwD.out]; exact cell_upd c0 uD (fun f => f)) (fun hHeld => ?_)
  rw [HwD.out] at hHeld ⊢
  have hq1 : ¬ (9223372036854775807 < ns.size + 1) := by omega
  refine wpT 1 ?_
  try simp only [put_y]
  try simp only [Act.put]
  try simp only [put_z]
  refine wpT 2 ?_
  try simp only [put_y]
  try simp only [Act.put]
  try simp only [put_z]
  refine wpT 3 ?_
  try simp only [put_y]
  try simp only [Act.put]
  try simp only [put_z]
  refine wpAnyH_ready (rs := [0]) (by kernel_rfl) (by simp) ?_
  refine AllReadyH.cons rfl (fun K hK => ?_) AllReadyH.nil
  go_simp
  refine (C.out _).mono ?_
  rintro e w3 ⟨rfl, hs, _, u3⟩
  have h3u : Upd Non W w3 := uD.then_non u3
  obtain ⟨b, o, e, _, _, hc⟩ := hs.at_ (k := j) (by simpa [sCells] using hjl)
  injection e with e
  injection e with e1 e2
  subst e1 e2
  have hc2 : w3.cell? ⟨wD.heap.size, j, none⟩ = some (.string ns) := by rw [Nat.zero_add] at hc; rw [hc, ← Hns.out, HN.out]; simp [sCells]
  clear hs hc
  go_wp2_with fail
  refine hK.out _ _ ?_ (fun hHeld => ?_)
  ·
   exact cell_upd c0 h3u (fun f => f)
  clear hK K
  try simp only [put_y]
  try simp only [Act.put]
  try simp only [put_z]
  refine wpT 4 ?_
  try simp only [put_y]
  try simp only [Act.put]
  try simp only [put_z]
  refine wpAnyH_ready (rs := [5]) (by kernel_rfl) (by simp) ?_
  refine AllReadyH.cons rfl (fun K hK => ?_) AllReadyH.nil
  go_simp
  refine hK.out _ _ ?_ (fun hHeld => ?_)
  ·
   exact cell_upd c0 h3u (fun f => f)
  clear hK K
  try simp only [put_y]
  try simp only [Act.put]
  try simp only [put_z]
  refine wpT 6 ?_
  try simp only [put_y]
  try simp only [Act.put]
  try simp only [put_z]
  refine wpT 7 ?_
  try simp only [put_y]
  try simp only [Act.put]
  try simp only [put_z]
  refine wpAnyH_done (by kernel_rfl) ?_ _
  go_wp2_with fail
  go_meet
  case rel => exact ⟨rfl, h3u⟩
 case rest =>
  obtain ⟨rfl, hwc⟩ := hcut
  have HU := Lib.hid (HU.out.then_non hwc)
  have hb2 := HB.out.upd hwc (fun f => f)
  have d0 := hb2.cell 0
  have d1 := hb2.cell 1
  have d2 := hb2.cell 2
  have d3 := hb2.cell 3
  clear c0 e0 hb2 hwc tj hlt6 hwj h3 hzn HN hjl C
  obtain ⟨w2, rfl⟩ : ∃ v : World, v = wc := ⟨_, rfl⟩
  rw [HJ.out] at d0 HF
  rcases (by omega : j = 0 ∨ j = 3 ∨ j = 4 ∨ j = 5 ∨ j = 1 ∨ j = 2) with rfl | rfl | rfl | rfl | rfl | rfl
  ·
   have d0 : w2.cell? ⟨w.heap.size, 0, none⟩ = some (.int .i64 1) := d0
   have HR : Hid (res = (condNm (1 + (0 : Nat)) ++ [32]) ++ vnF c.a) := by show _ = _; rw [HF.out]; rfl
   have C1 := Lib.hid (fun W => rVarName_c c.a H.out.a0 H.out.a1 W)
   have hz1 : (kstr (vnF c.a)).size ≤ 24 := ksz (by simp [vnF])
   have HE : Hid (s3 ++ kstr (vnF c.a) = kstr res) := by
    show _ = _
    rw [HR.out, ← Hs3.out, HJ.out]
    exact kstr_app _ _
   obtain ⟨p1, Hp1⟩ := nm (kstr (vnF c.a))
   rw [Hp1.out] at C1 hz1 HE
   obtain ⟨ca, Hca⟩ := nm c.a
   rw [Hca.out] at d1 C1
   clear d2 d3
   go_wp2_with fail
   refine (C1.out _).mono ?_
   rintro e w3 ⟨rfl, u3⟩
   go_wp2_with fail
   go_ret
   exact ⟨by rw [← HE.out]; rfl, HU.out.then_non u3⟩
  ·
   have d0 : w2.cell? ⟨w.heap.size, 0, none⟩ = some (.int .i64 4) := d0
   have HR : Hid (res = (condNm (1 + (3 : Nat)) ++ [32]) ++ (vnF c.a ++ [32] ++ vnF c.b)) := by show _ = _; rw [HF.out]; rfl
   have C1 := Lib.hid (fun W => rVarName_c c.a H.out.a0 H.out.a1 W)
   have C2 := Lib.hid (fun W => rVarName_c c.b (H.out.b0 (by have := HJ.out; omega)) (H.out.b1 (by have := HJ.out; omega)) W)
   have hz1 : (kstr (vnF c.a)).size ≤ 24 := ksz (by simp [vnF])
   have hz2 : (kstr (vnF c.b)).size ≤ 24 := ksz (by simp [vnF])
   have HE : Hid ((s3 ++ kstr (vnF c.a) ++ ({ data := #[32] } : ByteArray)) ++ kstr (vnF c.b) = kstr res) := by
    show _ = _
    rw [HR.out, ← Hs3.out, HJ.out]
    exact catF
   obtain ⟨p1, Hp1⟩ := nm (kstr (vnF c.a))
   obtain ⟨p2, Hp2⟩ := nm (kstr (vnF c.b))
   rw [Hp1.out] at C1 hz1 HE
   rw [Hp2.out] at C2 hz2 HE
   obtain ⟨ca, Hca⟩ := nm c.a
   obtain ⟨cb, Hcb⟩ := nm c.b
   rw [Hca.out] at d1 C1
   rw [Hcb.out] at d2 C2
   go_upto_region 6 with fail
   obtain ⟨wD, HwD⟩ := nm w2.drew
   have uD : Upd Non w2 wD := by rw [← HwD.out]; exact Upd.refl.drew
   refine wp_region_held_drew (S := fun w' => w'.cell? ⟨w.heap.size, 1, none⟩ = some (.int .i64 ca) ∧ w'.cell? ⟨w.heap.size, 2, none⟩ = some (.int .i64 cb)) (by kernel_rfl) (by rw [HwD.out]; exact ⟨cell_upd d1 uD (fun f => f), cell_upd d2 uD (fun f => f)⟩) (fun hHeld => ?_)
   skip
   rw [HwD.out] at hHeld ⊢
   have hq1 : ¬ (9223372036854775807 < s3.size + p1.size) := by omega
   have hq2 : ¬ (9223372036854775807 < s3.size + p1.size + 1) := by omega
   have hq3 : ¬ (9223372036854775807 < s3.size + p1.size + 1 + p2.size) := by omega
   refine wpT 0 ?_
   try simp only [put_y]
   try simp only [Act.put]
   try simp only [put_z]
   refine wpT 1 ?_
   try simp only [put_y]
   try simp only [Act.put]
   try simp only [put_z]
   refine wpT 2 ?_
   try simp only [put_y]
   try simp only [Act.put]
   try simp only [put_z]
   refine wpT 6 ?_
   try simp only [put_y]
   try simp only [Act.put]
   try simp only [put_z]
   refine wpT 7 ?_
   try simp only [put_y]
   try simp only [Act.put]
   try simp only [put_z]
   refine wpAnyH_ready (rs := [3]) (by kernel_rfl) (by simp) ?_
   refine AllReadyH.cons rfl (fun K hK => ?_) AllReadyH.nil
   go_simp
   refine (C1.out _).mono ?_
   rintro e w3 ⟨rfl, u3⟩
   have h3 : Upd Non w2 w3 := uD.then_non u3
   go_wp2_with fail
   refine hK.out _ _ ?_ (fun hHeld => ?_)
   ·
    exact ⟨cell_upd d1 h3 (fun f => f), cell_upd d2 h3 (fun f => f)⟩
   clear hK K
   try simp only [put_y]
   try simp only [Act.put]
   try simp only [put_z]
   refine wpT 4 ?_
   try simp only [put_y]
   try simp only [Act.put]
   try simp only [put_z]
   refine wpT 5 ?_
   try simp only [put_y]
   try simp only [Act.put]
   try simp only [put_z]
   refine wpAnyH_ready (rs := [8]) (by kernel_rfl) (by simp) ?_
   refine AllReadyH.cons rfl (fun K hK => ?_) AllReadyH.nil
   go_simp
   refine (C2.out _).mono ?_
   rintro e w4 ⟨rfl, u4⟩
   have h4 : Upd Non w2 w4 := h3.then_non u4
   go_wp2_with fail
   refine hK.out _ _ ?_ (fun hHeld => ?_)
   ·
    exact ⟨cell_upd d1 h4 (fun f => f), cell_upd d2 h4 (fun f => f)⟩
   clear hK K
   try simp only [put_y]
   try simp only [Act.put]
   try simp only [put_z]
   refine wpT 9 ?_
   try simp only [put_y]
   try simp only [Act.put]
   try simp only [put_z]
   refine wpT 10 ?_
   try simp only [put_y]
   try simp only [Act.put]
   try simp only [put_z]
   refine wpAnyH_done (by kernel_rfl) ?_ _
   go_wp2_with fail
   go_ret
   exact ⟨by rw [← HE.out]; rfl, HU.out.then_non h4⟩
  ·
   have d0 : w2.cell? ⟨w.heap.size, 0, none⟩ = some (.int .i64 5) := d0
   have HR : Hid (res = (condNm (1 + (4 : Nat)) ++ [32]) ++ (vnF c.a ++ [32] ++ inF c.b)) := by show _ = _; rw [HF.out]; rfl
   have C1 := Lib.hid (fun W => rVarName_c c.a H.out.a0 H.out.a1 W)
   have C2 := Lib.hid (fun W => rImmName_c c.b (H.out.b0 (by have := HJ.out; omega)) (H.out.b1 (by have := HJ.out; omega)) W)
   have hz1 : (kstr (vnF c.a)).size ≤ 24 := ksz (by simp [vnF])
   have hz2 : (kstr (inF c.b)).size ≤ 24 := ksz (by simp [inF])
   have HE : Hid ((s3 ++ kstr (vnF c.a) ++ ({ data := #[32] } : ByteArray)) ++ kstr (inF c.b) = kstr res) := by
    show _ = _
    rw [HR.out, ← Hs3.out, HJ.out]
    exact catF
   obtain ⟨p1, Hp1⟩ := nm (kstr (vnF c.a))
   obtain ⟨p2, Hp2⟩ := nm (kstr (inF c.b))
   rw [Hp1.out] at C1 hz1 HE
   rw [Hp2.out] at C2 hz2 HE
   obtain ⟨ca, Hca⟩ := nm c.a
   obtain ⟨cb, Hcb⟩ := nm c.b
   rw [Hca.out] at d1 C1
   rw [Hcb.out] at d2 C2
   go_upto_region 8 with fail
   obtain ⟨wD, HwD⟩ := nm w2.drew
   have uD : Upd Non w2 wD := by rw [← HwD.out]; exact Upd.refl.drew
   refine wp_region_held_drew (S := fun w' => w'.cell? ⟨w.heap.size, 1, none⟩ = some (.int .i64 ca) ∧ w'.cell? ⟨w.heap.size, 2, none⟩ = some (.int .i64 cb)) (by kernel_rfl) (by rw [HwD.out]; exact ⟨cell_upd d1 uD (fun f => f), cell_upd d2 uD (fun f => f)⟩) (fun hHeld => ?_)
   skip
   rw [HwD.out] at hHeld ⊢
   have hq1 : ¬ (9223372036854775807 < s3.size + p1.size) := by omega
   have hq2 : ¬ (9223372036854775807 < s3.size + p1.size + 1) := by omega
   have hq3 : ¬ (9223372036854775807 < s3.size + p1.size + 1 + p2.size) := by omega
   refine wpT 0 ?_
   try simp only [put_y]
   try simp only [Act.put]
   try simp only [put_z]
   refine wpT 1 ?_
   try simp only [put_y]
   try simp only [Act.put]
   try simp only [put_z]
   refine wpT 2 ?_
   try simp only [put_y]
   try simp only [Act.put]
   try simp only [put_z]
   refine wpT 6 ?_
   try simp only [put_y]
   try simp only [Act.put]
   try simp only [put_z]
   refine wpT 7 ?_
   try simp only [put_y]
   try simp only [Act.put]
   try simp only [put_z]
   refine wpAnyH_ready (rs := [3]) (by kernel_rfl) (by simp) ?_
   refine AllReadyH.cons rfl (fun K hK => ?_) AllReadyH.nil
   go_simp
   refine (C1.out _).mono ?_
   rintro e w3 ⟨rfl, u3⟩
   have h3 : Upd Non w2 w3 := uD.then_non u3
   go_wp2_with fail
   refine hK.out _ _ ?_ (fun hHeld => ?_)
   ·
    exact ⟨cell_upd d1 h3 (fun f => f), cell_upd d2 h3 (fun f => f)⟩
   clear hK K
   try simp only [put_y]
   try simp only [Act.put]
   try simp only [put_z]
   refine wpT 4 ?_
   try simp only [put_y]
   try simp only [Act.put]
   try simp only [put_z]
   refine wpT 5 ?_
   try simp only [put_y]
   try simp only [Act.put]
   try simp only [put_z]
   refine wpAnyH_ready (rs := [8]) (by kernel_rfl) (by simp) ?_
   refine AllReadyH.cons rfl (fun K hK => ?_) AllReadyH.nil
   go_simp
   refine (C2.out _).mono ?_
   rintro e w4 ⟨rfl, u4⟩
   have h4 : Upd Non w2 w4 := h3.then_non u4
   go_wp2_with fail
   refine hK.out _ _ ?_ (fun hHeld => ?_)
   ·
    exact ⟨cell_upd d1 h4 (fun f => f), cell_upd d2 h4 (fun f => f)⟩
   clear hK K
   try simp only [put_y]
   try simp only [Act.put]
   try simp only [put_z]
   refine wpT 9 ?_
   try simp only [put_y]
   try simp only [Act.put]
   try simp only [put_z]
   refine wpT 10 ?_
   try simp only [put_y]
   try simp only [Act.put]
   try simp only [put_z]
   refine wpAnyH_done (by kernel_rfl) ?_ _
   go_wp2_with fail
   go_ret
   exact ⟨by rw [← HE.out]; rfl, HU.out.then_non h4⟩
  ·
   have d0 : w2.cell? ⟨w.heap.size, 0, none⟩ = some (.int .i64 6) := d0
   have HR : Hid (res = (condNm (1 + (5 : Nat)) ++ [32]) ++ (inF c.a ++ [32] ++ inF c.b)) := by show _ = _; rw [HF.out]; rfl
   have C1 := Lib.hid (fun W => rImmName_c c.a H.out.a0 H.out.a1 W)
   have C2 := Lib.hid (fun W => rImmName_c c.b (H.out.b0 (by have := HJ.out; omega)) (H.out.b1 (by have := HJ.out; omega)) W)
   have hz1 : (kstr (inF c.a)).size ≤ 24 := ksz (by simp [inF])
   have hz2 : (kstr (inF c.b)).size ≤ 24 := ksz (by simp [inF])
   have HE : Hid ((s3 ++ kstr (inF c.a) ++ ({ data := #[32] } : ByteArray)) ++ kstr (inF c.b) = kstr res) := by
    show _ = _
    rw [HR.out, ← Hs3.out, HJ.out]
    exact catF
   obtain ⟨p1, Hp1⟩ := nm (kstr (inF c.a))
   obtain ⟨p2, Hp2⟩ := nm (kstr (inF c.b))
   rw [Hp1.out] at C1 hz1 HE
   rw [Hp2.out] at C2 hz2 HE
   obtain ⟨ca, Hca⟩ := nm c.a
   obtain ⟨cb, Hcb⟩ := nm c.b
   rw [Hca.out] at d1 C1
   rw [Hcb.out] at d2 C2
   go_upto_region 10 with fail
   obtain ⟨wD, HwD⟩ := nm w2.drew
   have uD : Upd Non w2 wD := by rw [← HwD.out]; exact Upd.refl.drew
   refine wp_region_held_drew (S := fun w' => w'.cell? ⟨w.heap.size, 1, none⟩ = some (.int .i64 ca) ∧ w'.cell? ⟨w.heap.size, 2, none⟩ = some (.int .i64 cb)) (by kernel_rfl) (by rw [HwD.out]; exact ⟨cell_upd d1 uD (fun f => f), cell_upd d2 uD (fun f => f)⟩) (fun hHeld => ?_)
   skip
   rw [HwD.out] at hHeld ⊢
   have hq1 : ¬ (9223372036854775807 < s3.size + p1.size) := by omega
   have hq2 : ¬ (9223372036854775807 < s3.size + p1.size + 1) := by omega
   have hq3 : ¬ (9223372036854775807 < s3.size + p1.size + 1 + p2.size) := by omega
   refine wpT 0 ?_
   try simp only [put_y]
   try simp only [Act.put]
   try simp only [put_z]
   refine wpT 1 ?_
   try simp only [put_y]
   try simp only [Act.put]
   try simp only [put_z]
   refine wpT 2 ?_
   try simp only [put_y]
   try simp only [Act.put]
   try simp only [put_z]
   refine wpT 6 ?_
   try simp only [put_y]
   try simp only [Act.put]
   try simp only [put_z]
   refine wpT 7 ?_
   try simp only [put_y]
   try simp only [Act.put]
   try simp only [put_z]
   refine wpAnyH_ready (rs := [3]) (by kernel_rfl) (by simp) ?_
   refine AllReadyH.cons rfl (fun K hK => ?_) AllReadyH.nil
   go_simp
   refine (C1.out _).mono ?_
   rintro e w3 ⟨rfl, u3⟩
   have h3 : Upd Non w2 w3 := uD.then_non u3
   go_wp2_with fail
   refine hK.out _ _ ?_ (fun hHeld => ?_)
   ·
    exact ⟨cell_upd d1 h3 (fun f => f), cell_upd d2 h3 (fun f => f)⟩
   clear hK K
   try simp only [put_y]
   try simp only [Act.put]
   try simp only [put_z]
   refine wpT 4 ?_
   try simp only [put_y]
   try simp only [Act.put]
   try simp only [put_z]
   refine wpT 5 ?_
   try simp only [put_y]
   try simp only [Act.put]
   try simp only [put_z]
   refine wpAnyH_ready (rs := [8]) (by kernel_rfl) (by simp) ?_
   refine AllReadyH.cons rfl (fun K hK => ?_) AllReadyH.nil
   go_simp
   refine (C2.out _).mono ?_
   rintro e w4 ⟨rfl, u4⟩
   have h4 : Upd Non w2 w4 := h3.then_non u4
   go_wp2_with fail
   refine hK.out _ _ ?_ (fun hHeld => ?_)
   ·
    exact ⟨cell_upd d1 h4 (fun f => f), cell_upd d2 h4 (fun f => f)⟩
   clear hK K
   try simp only [put_y]
   try simp only [Act.put]
   try simp only [put_z]
   refine wpT 9 ?_
   try simp only [put_y]
   try simp only [Act.put]
   try simp only [put_z]
   refine wpT 10 ?_
   try simp only [put_y]
   try simp only [Act.put]
   try simp only [put_z]
   refine wpAnyH_done (by kernel_rfl) ?_ _
   go_wp2_with fail
   go_ret
   exact ⟨by rw [← HE.out]; rfl, HU.out.then_non h4⟩
  ·
   have d0 : w2.cell? ⟨w.heap.size, 0, none⟩ = some (.int .i64 2) := d0
   have HR : Hid (res = (condNm (1 + (1 : Nat)) ++ [32]) ++ (vnF c.a ++ [32] ++ textF c.n)) := by show _ = _; rw [HF.out]; rfl
   have C1 := Lib.hid (fun W => rVarName_c c.a H.out.a0 H.out.a1 W)
   have C2 := Lib.hid (fun W => wText_c c.n H.out.n0 H.out.n1 W)
   have hz1 : (kstr (vnF c.a)).size ≤ 24 := ksz (by simp [vnF])
   have hz2 : (kstr (textF c.n)).size ≤ 24 := ksz (by have := textF_len ⟨H.out.n0, H.out.n1⟩; omega)
   have HE : Hid ((s3 ++ kstr (vnF c.a) ++ ({ data := #[32] } : ByteArray)) ++ kstr (textF c.n) = kstr res) := by
    show _ = _
    rw [HR.out, ← Hs3.out, HJ.out]
    exact catF
   obtain ⟨p1, Hp1⟩ := nm (kstr (vnF c.a))
   obtain ⟨p2, Hp2⟩ := nm (kstr (textF c.n))
   rw [Hp1.out] at C1 hz1 HE
   rw [Hp2.out] at C2 hz2 HE
   obtain ⟨ca, Hca⟩ := nm c.a
   obtain ⟨cb, Hcb⟩ := nm c.n
   rw [Hca.out] at d1 C1
   rw [Hcb.out] at d3 C2
   go_upto_region 11 with fail
   obtain ⟨wD, HwD⟩ := nm w2.drew
   have uD : Upd Non w2 wD := by rw [← HwD.out]; exact Upd.refl.drew
   refine wp_region_held_drew (S := fun w' => w'.cell? ⟨w.heap.size, 1, none⟩ = some (.int .i64 ca) ∧ w'.cell? ⟨w.heap.size, 3, none⟩ = some (.int .i64 cb)) (by kernel_rfl) (by rw [HwD.out]; exact ⟨cell_upd d1 uD (fun f => f), cell_upd d3 uD (fun f => f)⟩) (fun hHeld => ?_)
   have d2 := d3
   rw [HwD.out] at hHeld ⊢
   have hq1 : ¬ (9223372036854775807 < s3.size + p1.size) := by omega
   have hq2 : ¬ (9223372036854775807 < s3.size + p1.size + 1) := by omega
   have hq3 : ¬ (9223372036854775807 < s3.size + p1.size + 1 + p2.size) := by omega
   refine wpT 0 ?_
   try simp only [put_y]
   try simp only [Act.put]
   try simp only [put_z]
   refine wpT 1 ?_
   try simp only [put_y]
   try simp only [Act.put]
   try simp only [put_z]
   refine wpT 2 ?_
   try simp only [put_y]
   try simp only [Act.put]
   try simp only [put_z]
   refine wpT 6 ?_
   try simp only [put_y]
   try simp only [Act.put]
   try simp only [put_z]
   refine wpT 7 ?_
   try simp only [put_y]
   try simp only [Act.put]
   try simp only [put_z]
   refine wpAnyH_ready (rs := [3]) (by kernel_rfl) (by simp) ?_
   refine AllReadyH.cons rfl (fun K hK => ?_) AllReadyH.nil
   go_simp
   refine (C1.out _).mono ?_
   rintro e w3 ⟨rfl, u3⟩
   have h3 : Upd Non w2 w3 := uD.then_non u3
   go_wp2_with fail
   refine hK.out _ _ ?_ (fun hHeld => ?_)
   ·
    exact ⟨cell_upd d1 h3 (fun f => f), cell_upd d2 h3 (fun f => f)⟩
   clear hK K
   try simp only [put_y]
   try simp only [Act.put]
   try simp only [put_z]
   refine wpT 4 ?_
   try simp only [put_y]
   try simp only [Act.put]
   try simp only [put_z]
   refine wpT 5 ?_
   try simp only [put_y]
   try simp only [Act.put]
   try simp only [put_z]
   refine wpAnyH_ready (rs := [8]) (by kernel_rfl) (by simp) ?_
   refine AllReadyH.cons rfl (fun K hK => ?_) AllReadyH.nil
   go_simp
   refine (C2.out _).mono ?_
   rintro e w4 ⟨rfl, u4⟩
   have h4 : Upd Non w2 w4 := h3.then_non u4
   go_wp2_with fail
   refine hK.out _ _ ?_ (fun hHeld => ?_)
   ·
    exact ⟨cell_upd d1 h4 (fun f => f), cell_upd d2 h4 (fun f => f)⟩
   clear hK K
   try simp only [put_y]
   try simp only [Act.put]
   try simp only [put_z]
   refine wpT 9 ?_
   try simp only [put_y]
   try simp only [Act.put]
   try simp only [put_z]
   refine wpT 10 ?_
   try simp only [put_y]
   try simp only [Act.put]
   try simp only [put_z]
   refine wpAnyH_done (by kernel_rfl) ?_ _
   go_wp2_with fail
   go_ret
   exact ⟨by rw [← HE.out]; rfl, HU.out.then_non h4⟩
  ·
   have d0 : w2.cell? ⟨w.heap.size, 0, none⟩ = some (.int .i64 3) := d0
   have HR : Hid (res = (condNm (1 + (2 : Nat)) ++ [32]) ++ (vnF c.a ++ [32] ++ textF c.n)) := by show _ = _; rw [HF.out]; rfl
   have C1 := Lib.hid (fun W => rVarName_c c.a H.out.a0 H.out.a1 W)
   have C2 := Lib.hid (fun W => wText_c c.n H.out.n0 H.out.n1 W)
   have hz1 : (kstr (vnF c.a)).size ≤ 24 := ksz (by simp [vnF])
   have hz2 : (kstr (textF c.n)).size ≤ 24 := ksz (by have := textF_len ⟨H.out.n0, H.out.n1⟩; omega)
   have HE : Hid ((s3 ++ kstr (vnF c.a) ++ ({ data := #[32] } : ByteArray)) ++ kstr (textF c.n) = kstr res) := by
    show _ = _
    rw [HR.out, ← Hs3.out, HJ.out]
    exact catF
   obtain ⟨p1, Hp1⟩ := nm (kstr (vnF c.a))
   obtain ⟨p2, Hp2⟩ := nm (kstr (textF c.n))
   rw [Hp1.out] at C1 hz1 HE
   rw [Hp2.out] at C2 hz2 HE
   obtain ⟨ca, Hca⟩ := nm c.a
   obtain ⟨cb, Hcb⟩ := nm c.n
   rw [Hca.out] at d1 C1
   rw [Hcb.out] at d3 C2
   go_upto_region 11 with fail
   obtain ⟨wD, HwD⟩ := nm w2.drew
   have uD : Upd Non w2 wD := by rw [← HwD.out]; exact Upd.refl.drew
   refine wp_region_held_drew (S := fun w' => w'.cell? ⟨w.heap.size, 1, none⟩ = some (.int .i64 ca) ∧ w'.cell? ⟨w.heap.size, 3, none⟩ = some (.int .i64 cb)) (by kernel_rfl) (by rw [HwD.out]; exact ⟨cell_upd d1 uD (fun f => f), cell_upd d3 uD (fun f => f)⟩) (fun hHeld => ?_)
   have d2 := d3
   rw [HwD.out] at hHeld ⊢
   have hq1 : ¬ (9223372036854775807 < s3.size + p1.size) := by omega
   have hq2 : ¬ (9223372036854775807 < s3.size + p1.size + 1) := by omega
   have hq3 : ¬ (9223372036854775807 < s3.size + p1.size + 1 + p2.size) := by omega
   refine wpT 0 ?_
   try simp only [put_y]
   try simp only [Act.put]
   try simp only [put_z]
   refine wpT 1 ?_
   try simp only [put_y]
   try simp only [Act.put]
   try simp only [put_z]
   refine wpT 2 ?_
   try simp only [put_y]
   try simp only [Act.put]
   try simp only [put_z]
   refine wpT 6 ?_
   try simp only [put_y]
   try simp only [Act.put]
   try simp only [put_z]
   refine wpT 7 ?_
   try simp only [put_y]
   try simp only [Act.put]
   try simp only [put_z]
   refine wpAnyH_ready (rs := [3]) (by kernel_rfl) (by simp) ?_
   refine AllReadyH.cons rfl (fun K hK => ?_) AllReadyH.nil
   go_simp
   refine (C1.out _).mono ?_
   rintro e w3 ⟨rfl, u3⟩
   have h3 : Upd Non w2 w3 := uD.then_non u3
   go_wp2_with fail
   refine hK.out _ _ ?_ (fun hHeld => ?_)
   ·
    exact ⟨cell_upd d1 h3 (fun f => f), cell_upd d2 h3 (fun f => f)⟩
   clear hK K
   try simp only [put_y]
   try simp only [Act.put]
   try simp only [put_z]
   refine wpT 4 ?_
   try simp only [put_y]
   try simp only [Act.put]
   try simp only [put_z]
   refine wpT 5 ?_
   try simp only [put_y]
   try simp only [Act.put]
   try simp only [put_z]
   refine wpAnyH_ready (rs := [8]) (by kernel_rfl) (by simp) ?_
   refine AllReadyH.cons rfl (fun K hK => ?_) AllReadyH.nil
   go_simp
   refine (C2.out _).mono ?_
   rintro e w4 ⟨rfl, u4⟩
   have h4 : Upd Non w2 w4 := h3.then_non u4
   go_wp2_with fail
   refine hK.out _ _ ?_ (fun hHeld => ?_)
   ·
    exact ⟨cell_upd d1 h4 (fun f => f), cell_upd d2 h4 (fun f => f)⟩
   clear hK K
   try simp only [put_y]
   try simp only [Act.put]
   try simp only [put_z]
   refine wpT 9 ?_
   try simp only [put_y]
   try simp only [Act.put]
   try simp only [put_z]
   refine wpT 10 ?_
   try simp only [put_y]
   try simp only [Act.put]
   try simp only [put_z]
   refine wpAnyH_done (by kernel_rfl) ?_ _
   go_wp2_with fail
   go_ret
   exact ⟨by rw [← HE.out]; rfl, HU.out.then_non h4⟩
end Go.Proofs.Ytblkgjdhaibhgaa
namespace Go.Proofs.Ytblkgjdhaibhgaa
open Go.RowKit
def PI (p : Pt) : Prop := ∀ q ∈ nodes p, I64 q.imm
structure RlI (R : Rl) : Prop where
 l : PI R.l
 r : PI R.r
 c : ∀ x ∈ R.conds, I64 x.n
theorem nodes_self (p : Pt) : p ∈ nodes p := by cases p; simp [nodes]
theorem nodesL_mem {q k : Pt} : ∀ {ks : List Pt}, k ∈ ks → q ∈ nodes k → q ∈ nodesL ks
 | x :: ks, hk, hq => by
  simp only [nodesL, List.mem_append]
  rcases List.mem_cons.1 hk with rfl | hk
  ·
   exact .inl hq
  ·
   exact .inr (nodesL_mem hk hq)
theorem PI.kid {p k : Pt} (h : PI p) (hk : k ∈ p.kids) : PI k := fun q hq => h q (by
 cases p
 simp only [nodes, List.mem_cons]
 exact .inr (nodesL_mem hk hq))
theorem oS_ops {op : Int} (h : (oSortsF op).2.2 = true) : op = 1 ∨ (4 ≤ op ∧ op < 32) := by
 rw [← allowed_ok] at h
 simp only [allowedF, decide_eq_true_iff] at h
 omega
theorem shp_fm (p : Pt) : ∀ (s m : Int) (n : Nat), shp p s m n = true → m ≤ 6 → n ≤ 6 → PI p → FmOk p := by
 induction p using Pt.ind with
 | h p ih =>
  intro s m n hs hm hn hi
  by_cases hv : p.v = 0
  ·
   rw [shp_op hv, Bool.and_eq_true, decide_eq_true_iff] at hs
   obtain ⟨⟨h1, h2, _, h4⟩, h5⟩ := hs
   have hI := hi p (nodes_self p)
   have hiv : p.iv ≤ 100 := by
    unfold pImmF at h4
    split at h4
    ·
     simp only [Bool.and_eq_true, decide_eq_true_iff] at h4; omega
    ·
     omega
   have hks : ∀ k ∈ p.kids, FmOk k := fun k hk => by
    obtain ⟨i, hi2, rfl⟩ := List.mem_iff_getElem.1 hk
    exact ih _ hk _ m n (shpL_at hi2 h5) hm hn (hi.kid hk)
   cases p with
   | mk v op imm iv ks =>
    dsimp only [Pt.v, Pt.op, Pt.imm, Pt.iv, Pt.kids] at *
    rcases oS_ops h1 with rfl | ⟨a, b⟩
    ·
     exact .cst (by omega) hI.1 hI.2 hiv
    ·
     exact .app (by omega) a b hI.1 hI.2 hiv hks
  ·
   rw [shp_var hv, decide_eq_true_iff] at hs
   cases p with
   | mk v op imm iv ks =>
    dsimp only [Pt.v, Pt.op, Pt.imm, Pt.iv, Pt.kids] at *
    exact .var (by omega) (by omega)
theorem cond_fm {c : Cd} {ss : List Int} {m : Int} (h : condF c ss m = true) (hs : ss.length ≤ 7) (hm : m ≤ 6) (hn : I64 c.n) : CdFm c := by
 unfold condF at h
 split at h
 ·
  simp only [isValF, Bool.and_eq_true, decide_eq_true_iff] at h; exact ⟨by omega, by omega, by omega, by omega, by omega, by omega, hn.1, hn.2⟩
 ·
  split at h
  ·
   simp only [isValF, Bool.and_eq_true, decide_eq_true_iff] at h; exact ⟨by omega, by omega, by omega, by omega, by omega, by omega, hn.1, hn.2⟩
  ·
   split at h
   ·
    simp only [isValF, Bool.and_eq_true, decide_eq_true_iff] at h; exact ⟨by omega, by omega, by omega, by omega, by omega, by omega, hn.1, hn.2⟩
   ·
    split at h
    ·
     simp only [isValF, isImmF, Bool.and_eq_true, decide_eq_true_iff] at h; exact ⟨by omega, by omega, by omega, by omega, by omega, by omega, hn.1, hn.2⟩
    ·
     split at h
     ·
      simp only [isImmF, Bool.and_eq_true, decide_eq_true_iff] at h; exact ⟨by omega, by omega, by omega, by omega, by omega, by omega, hn.1, hn.2⟩
     ·
      cases h
structure FmR (R : Rl) : Prop where
 l : FmOk R.l
 r : FmOk R.r
 c : ∀ x ∈ R.conds, CdFm x
 few : R.conds.length ≤ 6
 ls : R.l.size ≤ 24
 rs : R.r.size ≤ 24
 n : R.name.size ≤ 16
theorem impl_fm {r : Rl} (h : implF r = true) (hi : RlI r) : FmR r := by
 have k := imp_ok h
 have hv := k.vars
 refine ⟨shp_fm _ _ _ _ k.shl k.imms.2 (by omega) hi.l, shp_fm _ _ _ _ k.shr k.imms.2 (by omega) hi.r, fun x hx => cond_fm (k.cnd x hx) (by simp; omega) k.imms.2 (hi.c x hx), k.few, k.sizes.1, k.sizes.2, ?_⟩
 have := k.name
 simp only [nameF, Bool.and_eq_true, decide_eq_true_iff] at this
 exact this.2.2
theorem fmtCs_len : ∀ {cs : List Cd} {b : Bool}, (∀ x ∈ cs, CdFm x) → (fmtCs cs b).length ≤ 44 * cs.length
 | [], b, _ => by simp [fmtCs]
 | c :: cs, b, h => by
  have e1 := fmtC_len (h c List.mem_cons_self)
  have e2 := fmtCs_len (cs := cs) (b := false) (fun x hx => h x (List.mem_cons_of_mem _ hx))
  simp only [fmtCs, List.length_append, List.length_cons]
  have : (if b = true then [32, 105, 102, 32] else ([44, 32] : Bs)).length ≤ 4 := by split <;> simp
  omega
theorem fmtCs_snoc (c : Cd) : ∀ (cs : List Cd) (b : Bool), fmtCs (cs ++ [c]) b = fmtCs cs b ++ ((if b && cs.isEmpty then [32, 105, 102, 32] else [44, 32]) ++ fmtC c)
 | [], b => by simp [fmtCs]
 | x :: cs, b => by simp [fmtCs, fmtCs_snoc c cs]
theorem fmtR_len {r : Rl} (h : FmR r) : (fmtR r).length ≤ 2000 := by
 have e1 := fmtF_len _ h.l
 have e2 := fmtF_len _ h.r
 have e3 := fmtCs_len (b := true) h.c
 have e4 := h.few
 have e5 := h.ls
 have e6 := h.rs
 have e7 : (kx r.name).length ≤ 16 := by rw [kx_len]; exact h.n
 unfold fmtR
 simp only [List.length_append, List.length_cons, List.length_nil]
 omega
theorem fmtRs_snoc (r : Rl) : ∀ L : List Rl, fmtRs (L ++ [r]) = fmtRs L ++ fmtR r
 | [] => by simp [fmtRs]
 | x :: L => by simp [fmtRs, fmtRs_snoc r L]
theorem fmtRs_len : ∀ {L : List Rl}, (∀ r ∈ L, FmR r) → (fmtRs L).length ≤ 2000 * L.length
 | [], _ => by simp [fmtRs]
 | r :: L, h => by
  have e1 := fmtR_len (h r List.mem_cons_self)
  have e2 := fmtRs_len (L := L) (fun x hx => h x (List.mem_cons_of_mem _ hx))
  simp only [fmtRs, List.length_append, List.length_cons]
  omega
end Go.Proofs.Ytblkgjdhaibhgaa
namespace Go.Proofs.Ytblkgjdhaibhgaa
open Go.RowKit
theorem strCells_u8 (s : ByteArray) : Lib.strCells s = u8s (kx s) := rfl
theorem run_apps {w : World} {A : Option Addr} {n c : Nat} {bs : Bs} (h : Own w 5 1 A n c (u8s bs)) {b0 : Nat} (hA : ∀ k, At A k → b0 ≤ k) (hb0 : b0 ≤ w.heap.size) (s : ByteArray) (hs : n + s.size ≤ 100000000000000) (ty : TypeId) :
  ∃ A' c' w', (Builtin.append_ #[48, 9] ty #[.slice A n c, .string s]).run Try.prog w = .ok (.slice A' (n + s.size) c') w' ∧ Own w' 5 1 A' (n + s.size) c' (u8s (bs ++ kx s)) ∧ Upd (At A) w w' ∧ (∀ k, At A' k → b0 ≤ k) := by
 obtain ⟨i, h1, h2, h3, h4⟩ := info_parts (show (Try.prog.info? 5).map (fun i => (i.zero, i.size, i.bytes)) = some (some (.int .u8 0), 1, 1) from by kernel_rfl)
 have hown : w.ownsRow b0 5 1 (.slice A n c) n (u8s bs) := by
  refine ⟨h.1, ?_⟩
  rcases h.2 with q | ⟨g, cap, cur, hv, _, r⟩
  ·
   exact .inl q
  ·
   injection hv with hv e2 e3
   subst hv e3
   exact .inr ⟨g, c, cur, rfl, hA g (At.some_.2 rfl), r⟩
 obtain ⟨v', w', hr, h5, h6, h7⟩ := Lib.run_append_own_string (P := Try.prog) w b0 48 9 ty 5 i Try.underlying48 Try.underlying9 h1 h2 h3 h4 (.slice A n c) n (u8s bs) hown s (by simp only [maxLen]; omega) (by omega) hb0
 rw [strCells_u8] at h5
 have hu : Upd (At A) w w' := (Upd.of_grown h6).mono (fun k _ hk => by
  cases A with
  | none => simp [Value.ownBlock] at hk
  | some a => exact ⟨a.off, a.spot, by simp [Value.ownBlock] at hk; subst hk; rfl⟩)
 have hcat : u8s bs ++ u8s (kx s) = u8s (bs ++ kx s) := by simp [u8s]
 rw [hcat] at h5
 rcases h5.2 with ⟨rfl, h0⟩ | ⟨g, cap, cur, rfl, hbg, r⟩
 ·
  refine ⟨none, 0, w', ?_, ?_, hu, fun k hk => (At.none_ hk).elim⟩
  ·
   rw [h0]; exact hr
  ·
   refine ⟨h5.1, .inl ⟨?_, h0⟩⟩
   rw [h0]
 ·
  exact ⟨some ⟨g, 0, none⟩, cap, w', hr, ⟨h5.1, .inr ⟨g, cap, cur, rfl, Nat.zero_le _, r⟩⟩, hu, fun k hk => by rw [At.some_] at hk; subst hk; exact hbg⟩
theorem wp_apps {w : World} {o : Oper} {a : Act} {K : Act → World → Prop} {Q : Exit → Act → World → Prop} {s x : Operand}
  (ho : o.op = .call { callee := .builtin .append, args := #[s, x], argTypes := #[48, 9] }) {A : Option Addr} {n c : Nat} {bs : Bs} (hs : a.eval s = .slice A n c) (h : Own w 5 1 A n c (u8s bs)) {b0 : Nat} (hA : ∀ k, At A k → b0 ≤ k) (hb0 : b0 ≤ w.heap.size) {str : ByteArray} (hx : a.eval x = .string str) (hn : n + str.size ≤ 100000000000000)
  (k : ∀ A' c' w', Own w' 5 1 A' (n + str.size) c' (u8s (bs ++ kx str)) → Upd (At A) w w' → (∀ k, At A' k → b0 ≤ k) → K (a.put o.dst (.slice A' (n + str.size) c')) w') : o.wp Try.prog a w K Q := by
 obtain ⟨A', c', w', hrun, h2, h3, h4⟩ := run_apps h hA hb0 str hn o.type
 unfold Oper.wp execOp
 simp only [ho, resolve, invoke, builtin, Sem.run_bind, Sem.run_pure, Result.andThen_ok, List.map_toArray, List.map_cons, List.map_nil, hs, hx, hrun]
 exact k A' c' w' h2 h3 h4
theorem step_apps {w : World} {ops : Array Oper} {o : Oper} {a : Act} {K : Act → World → Prop} {Q : Exit → Act → World → Prop} {E : Prop} (hgd : o.guard = none) {s x : Operand}
  (ho : o.op = .call { callee := .builtin .append, args := #[s, x], argTypes := #[48, 9] }) {A : Option Addr} {n c : Nat} {bs : Bs} (hs : a.eval s = .slice A n c) (h : Own w 5 1 A n c (u8s bs)) {b0 : Nat} (hA : ∀ k, At A k → b0 ≤ k) (hb0 : b0 ≤ w.heap.size) {str : ByteArray} (hx : a.eval x = .string str) (hn : n + str.size ≤ 100000000000000)
  (k : ∀ A' c' w', Own w' 5 1 A' (n + str.size) c' (u8s (bs ++ kx str)) → Upd (At A) w w' → (∀ k, At A' k → b0 ≤ k) → K (a.put o.dst (.slice A' (n + str.size) c')) w') :
  if Region.wanted o (yielded ops a.tmps) = true then Oper.wp Try.prog o a w K Q else E := by
 have hw : Region.wanted o (yielded ops a.tmps) = true := by simp [Region.wanted, hgd]
 rw [if_pos hw]
 exact wp_apps ho hs h hA hb0 hx hn k
theorem wpList_apps {w : World} {ops : Array Oper} {rest : List Oper} {o : Oper} {a : Act} {Q : Exit → Act → World → Prop} (hgd : o.guard = none) {s x : Operand}
  (ho : o.op = .call { callee := .builtin .append, args := #[s, x], argTypes := #[48, 9] }) {A : Option Addr} {n c : Nat} {bs : Bs} (hs : a.eval s = .slice A n c) (h : Own w 5 1 A n c (u8s bs)) {b0 : Nat} (hA : ∀ k, At A k → b0 ≤ k) (hb0 : b0 ≤ w.heap.size) {str : ByteArray} (hx : a.eval x = .string str) (hn : n + str.size ≤ 100000000000000)
  (k : ∀ A' c' w', Own w' 5 1 A' (n + str.size) c' (u8s (bs ++ kx str)) → Upd (At A) w w' → (∀ k, At A' k → b0 ≤ k) → wpList Try.prog ops Q rest (a.put o.dst (.slice A' (n + str.size) c')) w') : wpList Try.prog ops Q (o :: rest) a w :=
 wpList_plain hgd fun _ hK => wp_apps ho hs h hA hb0 hx hn fun A' c' w' h2 h3 h4 => hK _ _ (k A' c' w' h2 h3 h4)
theorem conv_own {w : World} {A : Option Addr} {n c : Nat} {bs : Bs} (h : Own w 5 1 A n c (u8s bs)) (hn : n = bs.length) : (convert 48 9 (.slice A n c)).run Try.prog w = .ok (.string (kstr bs)) w := by
 have hs : Sl w (At A) A ((bs.map fun b => (b.toNat : Int)).map fun x => Value.int .u8 x) := by
  have := Own.sl h
  rw [show (bs.map fun b => (b.toNat : Int)).map (fun x => Value.int .u8 x) = u8s bs by simp [u8s]]
  exact this
 have := run_str (P := Try.prog) (src := 48) (dst := 9) Try.underlying48 Try.underlying5 Try.underlying9 (n := n) (c := c) hs (by simpa using hn)
 rw [bstr_ub] at this
 exact this
end Go.Proofs.Ytblkgjdhaibhgaa
namespace Go.Proofs.Ytblkgjdhaibhgaa
open Go.RowKit
inductive Fm6 : Pt → Prop
 | var {v : Int} : 0 < v → v ≤ 6 → Fm6 (.mk v 0 0 0 [])
 | cst {imm : Int} : I64 imm → Fm6 (.mk 0 1 imm 0 [])
 | cim {iv : Int} : 0 < iv → iv ≤ 6 → Fm6 (.mk 0 1 0 iv [])
 | app {op imm iv : Int} {ks : List Pt} : 4 ≤ op → op < 32 → arF op = some ks.length → I64 imm → 0 ≤ iv → iv ≤ 6 → (iv ≠ 0 → imm = 0) → (immOp op = false → imm = 0 ∧ iv = 0) → (∀ k ∈ ks, Fm6 k) → Fm6 (.mk 0 op imm iv ks)
def sfx (op imm iv : Int) : Bs := if 0 < iv then 46 :: inF iv else if immOp op = true then 46 :: textF imm else []
mutual
def wT : Pt → List Bs
 | .mk v op imm iv ks =>
  if 0 < v then [vnF v] else if op = 1 then [if 0 < iv then 36 :: inF iv else textF imm]
  else [40] :: (opNm op ++ sfx op imm iv) :: (wTL ks ++ [[41]])
def wTL : List Pt → List Bs
 | [] => []
 | k :: ks => wT k ++ wTL ks
end
theorem isDg_w {c : UInt8} (h : isDg c = true) : wordCh c = true ∧ c.toNat ≠ 47 := by
 simp only [isDg, decide_eq_true_eq] at h
 refine ⟨?_, by omega⟩
 simp only [wordCh, isPn, Bool.and_eq_true, decide_eq_true_eq, Bool.not_eq_true', decide_eq_false_iff_not]
 omega
theorem dg_of {n : Nat} (h : n < 10) : isDg (UInt8.ofNat (48 + n)) = true ∧ (UInt8.ofNat (48 + n)).toNat = 48 + n := by
 have e : (UInt8.ofNat (48 + n)).toNat = 48 + n := by simp; omega
 refine ⟨?_, e⟩
 simp only [isDg, decide_eq_true_eq, e]
 omega
theorem decG_dg : ∀ (f n : Nat), ∀ c ∈ decG f n, isDg c = true
 | 0, n, c, h => by simp [decG] at h
 | f + 1, n, c, h => by
  rw [decG] at h
  split at h
  ·
   rename_i hn
   rw [List.mem_singleton] at h; subst h; exact (dg_of hn).1
  ·
   rcases List.mem_append.1 h with h | h
   ·
    exact decG_dg f _ c h
   ·
    rw [List.mem_singleton] at h; subst h; exact (dg_of (Nat.mod_lt _ (by decide))).1
theorem decD_ne (n : Nat) : decD n ≠ [] := by
 unfold decD
 rw [decG]
 split <;> simp
theorem wOk_app {a b : Bs} (ha : wOk a = true) (hb : wOk b = true) : wOk (a ++ b) = true := by simp only [wOk, List.all_append, Bool.and_eq_true] at *; exact ⟨ha, hb⟩
theorem wOk_dec (n : Nat) : wOk (decD n) = true := by
 simp only [wOk, List.all_eq_true]
 intro c hc
 have := isDg_w (decG_dg 20 n c hc)
 simp [this.1, this.2]
theorem wOk_text (n : Int) : wOk (textF n) = true := by
 unfold textF
 split
 ·
  exact wOk_app (a := [45]) (by decide) (wOk_dec _)
 ·
  exact wOk_dec _
theorem textF_ne (n : Int) : textF n ≠ [] := by
 unfold textF
 split
 ·
  simp
 ·
  exact decD_ne _
theorem i6 {n : Int} (h0 : 0 < n) (h : n ≤ 6) : n = 1 ∨ n = 2 ∨ n = 3 ∨ n = 4 ∨ n = 5 ∨ n = 6 := by omega
theorem wOk_vn {n : Int} (h0 : 0 < n) (h : n ≤ 6) : wOk (vnF n) = true := by
 rcases i6 h0 h with rfl | rfl | rfl | rfl | rfl | rfl <;> decide
theorem wOk_in {n : Int} (h0 : 0 < n) (h : n ≤ 6) : wOk (inF n) = true := by
 rcases i6 h0 h with rfl | rfl | rfl | rfl | rfl | rfl <;> decide
theorem wOk_names : ∀ s ∈ nameL, wOk s = true ∧ s ≠ [] := by decide
theorem opNm_ok {op : Int} (h0 : 4 ≤ op) (h1 : op < 32) : wOk (opNm op) = true ∧ opNm op ≠ [] := by
 unfold opNm
 have h : (op - 4).toNat < nameL.length := by show _ < 28; omega
 rw [List.getD, List.getElem?_eq_getElem h, Option.getD_some]
 exact wOk_names _ (List.getElem_mem h)
theorem wOk_conds : ∀ s ∈ condL, wOk s = true ∧ s ≠ [] := by decide
theorem wOk_sfx {op imm iv : Int} (h : iv ≤ 6) : wOk (sfx op imm iv) = true := by
 unfold sfx
 split
 ·
  rename_i q
  exact wOk_app (a := [46]) (by decide) (wOk_in q h)
 ·
  split
  ·
   exact wOk_app (a := [46]) (by decide) (wOk_text _)
  ·
   rfl
def dlm (d : UInt8) : Prop := isSp d = true ∨ isPn d = true
mutual
theorem lex_fmt : ∀ (p : Pt), Fm6 p → ∀ {d : UInt8} {s : Bs} {ws : List Bs}, dlm d → Lex (d :: s) ws → Lex (fmtF p ++ d :: s) (wT p ++ ws)
 | .mk v op imm iv ks, h, d, s, ws, hd, hr => by
  unfold fmtF wT
  cases h with
  | var h1 h2 =>
   rw [if_pos h1, if_pos h1]
   exact Lex.word (wOk_vn h1 h2) (by simp [vnF]) hd hr
  | cst h1 =>
   simp only [show ¬ (0 : Int) < 0 by decide, if_false, if_true]
   exact Lex.word (wOk_text _) (textF_ne _) hd hr
  | cim h1 h2 =>
   simp only [show ¬ (0 : Int) < 0 by decide, if_false, if_true, h1]
   exact Lex.word (wOk_app (a := [36]) (by decide) (wOk_in h1 h2)) (by simp) hd hr
  | app h1 h2 h3 h4 h5 h6 h7 h8 h9 =>
   have q1 : ¬ op = 1 := by omega
   simp only [show ¬ (0 : Int) < 0 by decide, if_false, q1]
   obtain ⟨o1, o2⟩ := opNm_ok h1 h2
   have hw : wOk (opNm op ++ sfx op imm iv) = true := wOk_app o1 (wOk_sfx h6)
   have hwn : opNm op ++ sfx op imm iv ≠ [] := fun q => o2 (List.append_eq_nil_iff.1 q).1
   have hcl : Lex (41 :: (d :: s)) ([41] :: ws) := Lex.app (s1 := [41]) (w1 := [[41]]) (Lex.pn (by decide)) hr
   obtain ⟨e, t, he, hde, hlx⟩ := lex_fmtL ks h9 (d := 41) (s := d :: s) (ws := [41] :: ws) (.inr (by decide)) hcl
   have h10 : Lex ((opNm op ++ sfx op imm iv) ++ e :: t) ((opNm op ++ sfx op imm iv) :: (wTL ks ++ [41] :: ws)) := Lex.word hw hwn hde hlx
   rw [← he] at h10
   have h11 := Lex.app (s1 := [40]) (w1 := [[40]]) (Lex.pn (by decide)) h10
   have e1 : [40] ++ ((opNm op ++ sfx op imm iv) ++ (fmtL ks ++ 41 :: (d :: s))) = [40] ++ opNm op ++ (if 0 < iv then 46 :: inF iv else if immOp op = true then 46 :: textF imm else []) ++ fmtL ks ++ [41] ++ d :: s := by simp [sfx]
   have e2 : [[40]] ++ (opNm op ++ sfx op imm iv) :: (wTL ks ++ [41] :: ws) = ([40] :: (opNm op ++ sfx op imm iv) :: (wTL ks ++ [[41]])) ++ ws := by simp
   rw [e1, e2] at h11
   exact h11
theorem lex_fmtL : ∀ (ks : List Pt), (∀ k ∈ ks, Fm6 k) → ∀ {d : UInt8} {s : Bs} {ws : List Bs}, dlm d → Lex (d :: s) ws → ∃ e t, fmtL ks ++ d :: s = e :: t ∧ dlm e ∧ Lex (e :: t) (wTL ks ++ ws)
 | [], _, d, s, ws, hd, hr => ⟨d, s, rfl, hd, hr⟩
 | k :: ks, h, d, s, ws, hd, hr => by
  obtain ⟨e, t, he, hde, hlx⟩ := lex_fmtL ks (fun q hq => h q (List.mem_cons_of_mem _ hq)) hd hr
  have h1 := lex_fmt k (h k List.mem_cons_self) hde hlx
  refine ⟨32, fmtF k ++ (e :: t), ?_, .inl (by decide), ?_⟩
  ·
   rw [← he]
   simp [fmtL]
  ·
   have := Lex.app (s1 := [32]) (w1 := []) (Lex.sp (by decide)) h1
   unfold wTL
   rw [List.append_assoc]
   exact this
end
structure Cd6 (c : Cd) : Prop where
 k0 : 1 ≤ c.kind
 k1 : c.kind ≤ 6
 a0 : 0 < c.a
 a1 : c.a ≤ 6
 b0 : 4 ≤ c.kind → 0 < c.b ∧ c.b ≤ 6
 b1 : c.kind ≤ 3 → c.b = 0
 n0 : c.kind ≠ 2 → c.kind ≠ 3 → c.n = 0
 n1 : I64 c.n
def wC (c : Cd) : List Bs :=
 condNm c.kind :: (if c.kind = 1 then [vnF c.a] else if c.kind = 4 then [vnF c.a, vnF c.b] else if c.kind = 5 then [vnF c.a, inF c.b] else if c.kind = 6 then [inF c.a, inF c.b] else [vnF c.a, textF c.n])
def wCs : List Cd → Bool → List Bs
 | [], _ => []
 | c :: cs, first => (if first then [105, 102] else [44]) :: wC c ++ wCs cs false
def wR (r : Rl) : List Bs := [[114, 117, 108, 101], kx r.name, [58]] ++ wT r.l ++ [[61, 62]] ++ wT r.r ++ wCs r.conds true ++ [[59]]
theorem condNm_ok {k : Int} (h0 : 1 ≤ k) (h1 : k ≤ 6) : wOk (condNm k) = true ∧ condNm k ≠ [] := by
 unfold condNm
 have h : (k - 1).toNat < condL.length := by show _ < 6; omega
 rw [List.getD, List.getElem?_eq_getElem h, Option.getD_some]
 exact wOk_conds _ (List.getElem_mem h)
theorem lex_two {a b : Bs} (ha : wOk a = true) (hna : a ≠ []) (hb : wOk b = true) (hnb : b ≠ []) {d : UInt8} {s : Bs} {ws : List Bs} (hd : dlm d) (hr : Lex (d :: s) ws) : Lex (a ++ [32] ++ b ++ d :: s) (a :: b :: ws) := by
 have h1 := Lex.word hb hnb hd hr
 have h2 := Lex.app (s1 := [32]) (w1 := []) (Lex.sp (by decide)) h1
 have h3 := Lex.word (s := b ++ d :: s) ha hna (.inl (by decide)) h2
 have e : a ++ [32] ++ b ++ d :: s = a ++ 32 :: (b ++ d :: s) := by simp
 rw [e]
 exact h3
theorem lex_c {c : Cd} (h : Cd6 c) {d : UInt8} {s : Bs} {ws : List Bs} (hd : dlm d) (hr : Lex (d :: s) ws) : Lex (fmtC c ++ d :: s) (wC c ++ ws) := by
 obtain ⟨k1, k2⟩ := condNm_ok h.k0 h.k1
 have va := wOk_vn h.a0 h.a1
 have ia := wOk_in h.a0 h.a1
 have nv : ∀ n, vnF n ≠ [] := fun n => by simp [vnF]
 have ni : ∀ n, inF n ≠ [] := fun n => by simp [inF]
 have key : ∀ {t : Bs} {us : List Bs}, Lex (t ++ d :: s) (us ++ ws) → Lex (condNm c.kind ++ [32] ++ t ++ d :: s) (condNm c.kind :: us ++ ws) := fun {t us} hk => by
  have h2 := Lex.app (s1 := [32]) (w1 := []) (Lex.sp (by decide)) hk
  have h3 := Lex.word (s := t ++ d :: s) k1 k2 (.inl (by decide)) h2
  have e : condNm c.kind ++ [32] ++ t ++ d :: s = condNm c.kind ++ 32 :: (t ++ d :: s) := by simp
  rw [e]
  exact h3
 unfold fmtC wC
 refine key ?_
 split
 ·
  exact Lex.word va (nv _) hd hr
 ·
  split
  ·
   have hb := h.b0 (by omega); exact lex_two va (nv _) (wOk_vn hb.1 hb.2) (nv _) hd hr
  ·
   split
   ·
    have hb := h.b0 (by omega); exact lex_two va (nv _) (wOk_in hb.1 hb.2) (ni _) hd hr
   ·
    split
    ·
     have hb := h.b0 (by omega); exact lex_two ia (ni _) (wOk_in hb.1 hb.2) (ni _) hd hr
    ·
     exact lex_two va (nv _) (wOk_text _) (textF_ne _) hd hr
theorem lex_cs : ∀ (cs : List Cd) (b : Bool), (∀ c ∈ cs, Cd6 c) → ∀ {d : UInt8} {s : Bs} {ws : List Bs}, dlm d → Lex (d :: s) ws → ∃ e t, fmtCs cs b ++ d :: s = e :: t ∧ dlm e ∧ Lex (e :: t) (wCs cs b ++ ws)
 | [], _, _, d, s, ws, hd, hr => ⟨d, s, rfl, hd, hr⟩
 | c :: cs, b, h, d, s, ws, hd, hr => by
  obtain ⟨e, t, he, hde, hlx⟩ := lex_cs cs false (fun q hq => h q (List.mem_cons_of_mem _ hq)) hd hr
  have h1 := lex_c (h c List.mem_cons_self) hde hlx
  have h2 := Lex.app (s1 := [32]) (w1 := []) (Lex.sp (by decide)) h1
  cases b with
  | true =>
   have h3 := Lex.word (w := [105, 102]) (d := 32) (s := fmtC c ++ e :: t) (by decide) (by simp) (.inl (by decide)) h2
   have h4 := Lex.app (s1 := [32]) (w1 := []) (Lex.sp (by decide)) h3
   refine ⟨32, [105, 102, 32] ++ fmtC c ++ e :: t, ?_, .inl (by decide), ?_⟩
   ·
    rw [← he]
    simp [fmtCs]
   ·
    have e1 : [32] ++ ([105, 102] ++ 32 :: (fmtC c ++ e :: t)) = 32 :: ([105, 102, 32] ++ fmtC c ++ e :: t) := by simp
    rw [e1] at h4
    have e2 : [] ++ [105, 102] :: ([] ++ (wC c ++ (wCs cs false ++ ws))) = wCs (c :: cs) true ++ ws := by simp [wCs]
    rw [e2] at h4
    exact h4
  | false =>
   have h3 := Lex.app (s1 := [44]) (w1 := [[44]]) (Lex.pn (by decide)) h2
   refine ⟨44, 32 :: (fmtC c ++ e :: t), ?_, .inr (by decide), ?_⟩
   ·
    rw [← he]
    simp [fmtCs]
   ·
    have e2 : [[44]] ++ ([] ++ (wC c ++ (wCs cs false ++ ws))) = wCs (c :: cs) false ++ ws := by simp [wCs]
    rw [e2] at h3
    exact h3
theorem name_ok {n : ByteArray} (h : nameF n = true) : wOk (kx n) = true ∧ kx n ≠ [] := by
 simp only [nameF, Bool.and_eq_true, decide_eq_true_eq] at h
 refine ⟨?_, fun q => ?_⟩
 ·
  have h1 := h.1
  simp only [wOk, List.all_eq_true] at h1 ⊢
  intro c hc
  have := h1 c hc
  simp only [nmCh, decide_eq_true_eq] at this
  simp only [Bool.and_eq_true, decide_eq_true_eq, wordCh, isPn, Bool.not_eq_true', decide_eq_false_iff_not]
  omega
 ·
  have := kx_len n
  rw [q] at this
  simp at this
  omega
structure Rt6 (R : Rl) : Prop where
 n : nameF R.name = true
 l : Fm6 R.l
 r : Fm6 R.r
 c : ∀ x ∈ R.conds, Cd6 x
theorem lex_rule {r : Rl} (h : Rt6 r) : Lex (fmtR r) (wR r) := by
 have h0 : Lex [59, 10] [[59]] := Lex.app (s1 := [59]) (w1 := [[59]]) (s2 := [10]) (w2 := []) (Lex.pn (by decide)) (Lex.sp (by decide))
 obtain ⟨e, t, he, hde, h1⟩ := lex_cs r.conds true h.c (d := 59) (s := [10]) (.inr (by decide)) h0
 have h2 := lex_fmt r.r h.r hde h1
 have h3 := Lex.app (s1 := [32]) (w1 := []) (Lex.sp (by decide)) h2
 have h4 := Lex.word (w := [61, 62]) (d := 32) (s := fmtF r.r ++ e :: t) (by decide) (by simp) (.inl (by decide)) h3
 have h5 := Lex.app (s1 := [32]) (w1 := []) (Lex.sp (by decide)) h4
 have h6 := lex_fmt r.l h.l (d := 32) (s := [61, 62] ++ 32 :: (fmtF r.r ++ e :: t)) (.inl (by decide)) h5
 have h7 := Lex.app (s1 := [32]) (w1 := []) (Lex.sp (by decide)) h6
 have h8 := Lex.app (s1 := [58]) (w1 := [[58]]) (Lex.pn (by decide)) h7
 obtain ⟨n1, n2⟩ := name_ok h.n
 have h9 := Lex.word (w := kx r.name) (d := 58) (s := [32] ++ (fmtF r.l ++ 32 :: ([61, 62] ++ 32 :: (fmtF r.r ++ e :: t)))) n1 n2 (.inr (by decide)) h8
 have h10 := Lex.app (s1 := [32]) (w1 := []) (Lex.sp (by decide)) h9
 have h11 := Lex.word (w := [114, 117, 108, 101]) (d := 32) (s := kx r.name ++ 58 :: ([32] ++ (fmtF r.l ++ 32 :: ([61, 62] ++ 32 :: (fmtF r.r ++ e :: t))))) (by decide) (by simp) (.inl (by decide)) h10
 rw [← he] at h11
 have e1 : [114, 117, 108, 101] ++ 32 :: (kx r.name ++ 58 :: ([32] ++ (fmtF r.l ++ 32 :: ([61, 62] ++ 32 :: (fmtF r.r ++ (fmtCs r.conds true ++ 59 :: [10])))))) = fmtR r := by simp [fmtR]
 rw [e1] at h11
 have e2 : [114, 117, 108, 101] :: ([] ++ kx r.name :: ([[58]] ++ ([] ++ (wT r.l ++ ([] ++ [61, 62] :: ([] ++ (wT r.r ++ (wCs r.conds true ++ [[59]])))))))) = wR r := by simp [wR]
 rw [e2] at h11
 exact h11
end Go.Proofs.Ytblkgjdhaibhgaa
namespace Go.Proofs.Ytblkgjdhaibhgaa
open Go.RowKit
theorem digF_sn (l : Bs) (c : UInt8) (a : Nat) : digF (l ++ [c]) a = 10 * digF l a + (c.toNat - 48) := by simp [digF]
theorem dig_dec : ∀ (f n : Nat), n < 10 ^ (f + 1) → digF (decG (f + 1) n) 0 = n
 | 0, n, h => by
  have h : n < 10 := by simpa using h
  rw [decG_lt 0 h]
  show 10 * 0 + ((UInt8.ofNat (48 + n)).toNat - 48) = n
  rw [(dg_of h).2]; omega
 | f + 1, n, h => by
  by_cases hn : n < 10
  ·
   rw [decG_lt _ hn]
   show 10 * 0 + ((UInt8.ofNat (48 + n)).toNat - 48) = n
   rw [(dg_of hn).2]; omega
  ·
   rw [decG_ge _ hn, digF_sn, dig_dec f (n / 10) (by rw [Nat.div_lt_iff_lt_mul (by decide)]; rw [Nat.pow_succ] at h; exact h), (dg_of (Nat.mod_lt _ (by decide))).2]
   omega
theorem dec_head : ∀ (f n : Nat), 0 < n → n < 10 ^ (f + 1) → ∃ c l, decG (f + 1) n = c :: l ∧ c ≠ 48
 | 0, n, h0, h => by
  have h : n < 10 := by simpa using h
  rw [decG_lt 0 h]
  refine ⟨_, [], rfl, fun q => ?_⟩
  have := congrArg UInt8.toNat q
  rw [(dg_of h).2] at this
  have e : (48 : UInt8).toNat = 48 := rfl
  omega
 | f + 1, n, h0, h => by
  by_cases hn : n < 10
  ·
   rw [decG_lt _ hn]
   refine ⟨_, [], rfl, fun q => ?_⟩
   have := congrArg UInt8.toNat q
   rw [(dg_of hn).2] at this
   have e : (48 : UInt8).toNat = 48 := rfl
   omega
  ·
   obtain ⟨c, l, e, hc⟩ := dec_head f (n / 10) (by omega) (by rw [Nat.div_lt_iff_lt_mul (by decide)]; rw [Nat.pow_succ] at h; exact h)
   rw [decG_ge _ hn, e]
   exact ⟨c, l ++ _, rfl, hc⟩
theorem dec_len : ∀ (k f n : Nat), n < 10 ^ (k + 1) → (decG f n).length ≤ k + 1
 | k, 0, n, _ => by simp [decG]
 | 0, f + 1, n, h => by rw [decG_lt f (by simpa using h)]; simp
 | k + 1, f + 1, n, h => by
  by_cases hn : n < 10
  ·
   rw [decG_lt f hn]; simp
  ·
   rw [decG_ge f hn, List.length_append]
   have := dec_len k f (n / 10) (by rw [Nat.div_lt_iff_lt_mul (by decide)]; rw [Nat.pow_succ] at h; exact h)
   simp; omega
theorem decF_text {n : Int} (h : I64 n) : decF (textF n) = some n := by
 have hb : n.natAbs < 10 ^ 19 := by unfold I64 at h; omega
 have hlen : (decD n.natAbs).length ≤ 19 := dec_len 18 20 _ hb
 have hdig : digF (decD n.natAbs) 0 = n.natAbs := dig_dec 19 _ (by omega)
 have hall : (decD n.natAbs).all isDg = true := List.all_eq_true.2 (decG_dg 20 _)
 have hne : 1 ≤ (decD n.natAbs).length := List.length_pos_iff.2 (decD_ne _)
 unfold textF
 by_cases hn : n < 0
 ·
  rw [if_pos hn]
  obtain ⟨c, l, e, hc⟩ := dec_head 19 n.natAbs (by omega) (by omega)
  have e : decD n.natAbs = c :: l := e
  have hneg : decide ((45 :: decD n.natAbs).head? = some (45 : UInt8)) = true := by simp
  unfold decF
  dsimp only
  rw [hneg]
  simp only [if_true, List.tail_cons]
  rw [if_neg (by rw [e]; simp only [List.head?_cons, Option.some.injEq]; rw [← e]; intro q; rcases q with q | q | q; omega; omega; exact hc q.1), hall]
  simp only [if_true, hdig]
  rw [if_neg (by unfold I64 at h; omega)]
  congr 1
  omega
 ·
  rw [if_neg hn]
  have hneg : decide ((decD n.natAbs).head? = some (45 : UInt8)) = false := by
   apply decide_eq_false
   intro q
   cases hd : decD n.natAbs with
   | nil => exact decD_ne _ hd
   | cons c l =>
    rw [hd] at q
    simp only [List.head?_cons, Option.some.injEq] at q
    have := decG_dg 20 n.natAbs c (by show c ∈ decD n.natAbs; rw [hd]; exact List.mem_cons_self)
    rw [q] at this
    exact absurd this (by decide)
  unfold decF
  dsimp only
  rw [hneg]
  simp only [Bool.false_eq_true, if_false]
  have h48 : ¬ ((decD n.natAbs).head? = some (48 : UInt8) ∧ ((decD n.natAbs).length > 1 ∨ False)) := by
   rintro ⟨q1, q2⟩
   by_cases h0 : n.natAbs = 0
   ·
    rw [h0] at q2
    have : (decD 0).length = 1 := rfl
    rcases q2 with q2 | q2
    ·
     omega
    ·
     exact q2
   ·
    obtain ⟨c, l, e, hc⟩ := dec_head 19 n.natAbs (by omega) (by omega)
    have e : decD n.natAbs = c :: l := e
    rw [e] at q1
    simp only [List.head?_cons, Option.some.injEq] at q1
    exact hc q1
  rw [if_neg (by intro q; rcases q with q | q | q; omega; omega; exact h48 q), hall]
  simp only [if_true, hdig]
  rw [if_neg (by unfold I64 at h; omega)]
  congr 1
  omega
def nm7 (m : Nat) : Bs := (List.range m).map fun i => UInt8.ofNat (97 + i)
def ni7 (m : Nat) : Bs := (List.range m).map fun i => UInt8.ofNat (107 + i)
theorem look_v : ∀ m : Fin 7, ∀ v : Fin 7, ∀ left : Bool, (1 ≤ v.val ∧ v.val ≤ m.val → lookF (nm7 m) (UInt8.ofNat (96 + v)) left = (v.val, nm7 m)) ∧ (v.val = m.val + 1 → lookF (nm7 m) (UInt8.ofNat (96 + v)) true = (v.val, nm7 (m + 1))) := by decide +kernel
theorem look_i : ∀ m : Fin 7, ∀ v : Fin 7, ∀ left : Bool, (1 ≤ v.val ∧ v.val ≤ m.val → lookF (ni7 m) (UInt8.ofNat (106 + v)) left = (v.val, ni7 m)) ∧ (v.val = m.val + 1 → lookF (ni7 m) (UInt8.ofNat (106 + v)) true = (v.val, ni7 (m + 1))) := by decide +kernel
theorem vn_parts : ∀ v : Fin 7, 1 ≤ v.val → decF [63, UInt8.ofNat (96 + v)] = none ∧ isLw (UInt8.ofNat (96 + v)) = true := by decide +kernel
theorem in_parts : ∀ v : Fin 7, 1 ≤ v.val → decF [36, UInt8.ofNat (106 + v)] = none ∧ decF [UInt8.ofNat (106 + v)] = none ∧ isLw (UInt8.ofNat (106 + v)) = true := by decide +kernel
theorem op_parts : ∀ i : Fin 28, opF (nameL[i.val]'i.isLt) = some (4 + i.val) ∧ (nameL[i.val]'i.isLt).all (fun c => decide (c.toNat ≠ 46)) = true := by decide +kernel
theorem cond_parts : ∀ i : Fin 6, findL condL (condL[i.val]'i.isLt) 0 = some i.val := by decide +kernel
end Go.Proofs.Ytblkgjdhaibhgaa
namespace Go.Proofs.Ytblkgjdhaibhgaa
open Go.RowKit
def cnI (iv : Int) (n : Nat) : Option Nat := if 0 < iv then (if iv ≤ n then some n else if iv = n + 1 then some (n + 1) else none) else some n
mutual
def cn : Pt → Nat → Nat → Option (Nat × Nat)
 | .mk v _ _ iv ks, m, n =>
  if 0 < v then (if v ≤ m then some (m, n) else if v = m + 1 then some (m + 1, n) else none)
  else match cnI iv n with
   | none => none
   | some n2 => cnL ks m n2
def cnL : List Pt → Nat → Nat → Option (Nat × Nat)
 | [], m, n => some (m, n)
 | k :: ks, m, n => match cn k m n with
  | none => none
  | some s => cnL ks s.1 s.2
end
theorem cnI_mono {iv : Int} {n n2 : Nat} (h : cnI iv n = some n2) : n ≤ n2 := by
 unfold cnI at h
 split at h
 ·
  split at h
  ·
   injection h with h; omega
  ·
   split at h
   ·
    injection h with h; omega
   ·
    cases h
 ·
  injection h with h; omega
mutual
theorem cn_mono : ∀ (p : Pt) {m n m' n' : Nat}, cn p m n = some (m', n') → m ≤ m' ∧ n ≤ n'
 | .mk v op imm iv ks, m, n, m', n', h => by
  unfold cn at h
  split at h
  ·
   split at h
   ·
    injection h with h; injection h with h1 h2; omega
   ·
    split at h
    ·
     injection h with h; injection h with h1 h2; omega
    ·
     cases h
  ·
   cases hc : cnI iv n with
   | none => rw [hc] at h; cases h
   | some n2 =>
    rw [hc] at h
    have := cnI_mono hc
    have := cnL_mono ks h
    omega
theorem cnL_mono : ∀ (ks : List Pt) {m n m' n' : Nat}, cnL ks m n = some (m', n') → m ≤ m' ∧ n ≤ n'
 | [], m, n, m', n', h => by unfold cnL at h; injection h with h; injection h with h1 h2; omega
 | k :: ks, m, n, m', n', h => by
  unfold cnL at h
  cases hc : cn k m n with
  | none => rw [hc] at h; cases h
  | some s =>
   obtain ⟨a, b⟩ := s
   rw [hc] at h
   have := cn_mono k hc
   have := cnL_mono ks h
   omega
end
def Ws (T : List (Bs × Nat)) (k : Nat) (ws : List Bs) : Prop := ∀ j (h : j < ws.length), tkF T (k + j) = some ws[j]
section
variable {T : List (Bs × Nat)} {fin : Nat}
theorem Ws.cons {k : Nat} {a : Bs} {b : List Bs} (h : Ws T k (a :: b)) : tkF T k = some a ∧ Ws T (k + 1) b := by
 refine ⟨h 0 (Nat.zero_lt_succ _), fun j hj => ?_⟩
 have := h (j + 1) (Nat.succ_lt_succ hj)
 rw [show k + 1 + j = k + (j + 1) by omega]
 exact this
theorem Ws.app {k : Nat} {a b : List Bs} (h : Ws T k (a ++ b)) : Ws T k a ∧ Ws T (k + a.length) b := by
 refine ⟨fun j hj => ?_, fun j hj => ?_⟩
 ·
  have := h j (by rw [List.length_append]; omega)
  rw [List.getElem_append_left hj] at this
  exact this
 ·
  have := h (a.length + j) (by rw [List.length_append]; omega)
  rw [List.getElem_append_right (by omega)] at this
  rw [show k + a.length + j = k + (a.length + j) by omega, this]
  simp
theorem wOk_head {w : Bs} (h : wOk w = true) (hn : w ≠ []) : isPn (w.headD 0) = false ∧ w ≠ [40] := by
 cases w with
 | nil => exact absurd rfl hn
 | cons c l =>
  simp only [wOk, List.all_cons, Bool.and_eq_true] at h
  obtain ⟨p1, _⟩ := wordCh_parts h.1.1
  refine ⟨p1, fun q => ?_⟩
  injection q with q _
  subst q
  exact absurd p1 (by decide)
theorem wrd_of {α : Type} {f : Bs → PS → Option (α × PS)} {x y : PS} {a : α} {s : Bs} (ht : tkF T x.i = some s) (hw : wOk s = true) (hn : s ≠ []) (hf : f s x = some (a, y)) : wrdF T fin f x = .ok (a, ⟨x.i + 1, y.vs, y.ms⟩) := by
 unfold wrdF
 rw [ht]
 dsimp only
 rw [if_neg (by rw [(wOk_head hw hn).1]; decide), hf]
theorem fin7 {v : Int} (h0 : 0 < v) (h1 : v ≤ 6) : ∃ u : Fin 7, v = (u.val : Int) ∧ 1 ≤ u.val := ⟨⟨v.toNat, by omega⟩, by show v = (v.toNat : Int); omega, by show 1 ≤ v.toNat; omega⟩
theorem look_vn {m m' : Nat} {v : Int} {left : Bool} (h0 : 0 < v) (h6 : v ≤ 6) (hm : m' ≤ 6) (hc : (if v ≤ m then some m else if v = m + 1 then some (m + 1) else none) = some m') (hl : left = false → m' = m) : lookF (nm7 m) (UInt8.ofNat (96 + v.toNat)) left = (v.toNat, nm7 m') := by
 obtain ⟨u, hu, hu1⟩ := fin7 h0 h6
 have ev : v.toNat = u.val := by omega
 rw [ev]
 split at hc
 ·
  injection hc with hc
  subst hc
  exact (look_v ⟨m, by omega⟩ u left).1 ⟨hu1, by show u.val ≤ m; omega⟩
 ·
  split at hc
  ·
   injection hc with hc
   subst hc
   cases left with
   | false => have := hl rfl; omega
   | true => exact (look_v ⟨m, by omega⟩ u true).2 (by show u.val = m + 1; omega)
  ·
   cases hc
theorem look_in {m m' : Nat} {v : Int} {left : Bool} (h0 : 0 < v) (h6 : v ≤ 6) (hm : m' ≤ 6) (hc : cnI v m = some m') (hl : left = false → m' = m) : lookF (ni7 m) (UInt8.ofNat (106 + v.toNat)) left = (v.toNat, ni7 m') := by
 obtain ⟨u, hu, hu1⟩ := fin7 h0 h6
 have ev : v.toNat = u.val := by omega
 rw [ev]
 unfold cnI at hc
 rw [if_pos h0] at hc
 split at hc
 ·
  injection hc with hc
  subst hc
  exact (look_i ⟨m, by omega⟩ u left).1 ⟨hu1, by show u.val ≤ m; omega⟩
 ·
  split at hc
  ·
   injection hc with hc
   subst hc
   cases left with
   | false => have := hl rfl; omega
   | true => exact (look_i ⟨m, by omega⟩ u true).2 (by show u.val = m + 1; omega)
  ·
   cases hc
theorem vn_dec {v : Int} (h0 : 0 < v) (h6 : v ≤ 6) : decF (vnF v) = none ∧ isLw (UInt8.ofNat (96 + v.toNat)) = true := by
 obtain ⟨u, hu, hu1⟩ := fin7 h0 h6
 have := vn_parts u hu1
 unfold vnF
 rw [show v.toNat = u.val by omega]
 exact this
theorem in_dec {v : Int} (h0 : 0 < v) (h6 : v ≤ 6) : decF (36 :: inF v) = none ∧ decF (inF v) = none ∧ isLw (UInt8.ofNat (106 + v.toNat)) = true := by
 obtain ⟨u, hu, hu1⟩ := fin7 h0 h6
 have := in_parts u hu1
 unfold inF
 rw [show v.toNat = u.val by omega]
 exact this
theorem varF2 (a b : UInt8) (c : Nat) (l : Bs) (left : Bool) : varF [a, b] c l left = if a.toNat = c ∧ isLw b = true then lookF l b left else (0, l) := rfl
theorem varF_vn {v : Int} (h0 : 0 < v) (h6 : v ≤ 6) (l : Bs) (left : Bool) : varF (vnF v) 63 l left = lookF l (UInt8.ofNat (96 + v.toNat)) left := by
 unfold vnF
 rw [varF2, if_pos ⟨rfl, (vn_dec h0 h6).2⟩]
theorem varF_in {v : Int} (h0 : 0 < v) (h6 : v ≤ 6) (l : Bs) (left : Bool) : varF (36 :: inF v) 63 l left = (0, l) ∧ varF (36 :: inF v) 36 l left = lookF l (UInt8.ofNat (106 + v.toNat)) left := by
 unfold inF
 refine ⟨?_, ?_⟩
 ·
  rw [varF2, if_neg (fun q => absurd q.1 (by decide))]
 ·
  rw [varF2, if_pos ⟨rfl, (in_dec h0 h6).2.2⟩]
theorem op_nm {op : Int} (h0 : 4 ≤ op) (h1 : op < 32) : opF (opNm op) = some op.toNat ∧ (opNm op).all (fun c => decide (c.toNat ≠ 46)) = true := by
 obtain ⟨i, hi⟩ : ∃ i : Fin 28, op = 4 + (i.val : Int) := ⟨⟨(op - 4).toNat, by omega⟩, by show op = 4 + ((op - 4).toNat : Int); omega⟩
 have := op_parts i
 unfold opNm
 rw [show (op - 4).toNat = i.val by omega, show op.toNat = 4 + i.val by omega, List.getD, List.getElem?_eq_getElem i.isLt, Option.getD_some]
 exact this
theorem take_nm {a b : Bs} (ha : a.all (fun c => decide (c.toNat ≠ 46)) = true) (hb : b = [] ∨ ∃ t, b = 46 :: t) : (a ++ b).takeWhile (fun c => decide (c.toNat ≠ 46)) = a := by
 rw [List.takeWhile_append_of_pos (fun x hx => List.all_eq_true.1 ha x hx)]
 rcases hb with rfl | ⟨t, rfl⟩
 ·
  simp
 ·
  rw [List.takeWhile_cons_of_neg (by decide), List.append_nil]
theorem oper_of {left : Bool} {op imm iv : Int} {ks : List Pt} {i m n n' : Nat} (h : Fm6 (.mk 0 op imm iv ks)) (ho : 4 ≤ op) (hc : cnI iv n = some n') (hn : n' ≤ 6) (hl : left = false → n' = n) : operF left (opNm op ++ sfx op imm iv) ⟨i, nm7 m, ni7 n⟩ = some (.mk 0 op imm iv [], ⟨i, nm7 m, ni7 n'⟩) := by
 cases h with
 | var _ _ => omega
 | cst _ => omega
 | cim _ _ => omega
 | app h1 h2 h3 h4 h5 h6 h7 h8 h9 =>
  obtain ⟨o1, o2⟩ := op_nm h1 h2
  have hs : sfx op imm iv = [] ∨ ∃ t, sfx op imm iv = 46 :: t := by
   unfold sfx
   split
   ·
    exact .inr ⟨_, rfl⟩
   ·
    split
    ·
     exact .inr ⟨_, rfl⟩
    ·
     exact .inl rfl
  unfold operF
  dsimp only
  rw [take_nm o2 hs, o1]
  dsimp only
  rw [show ((op.toNat : Nat) : Int) = op by omega, h3, List.drop_left]
  have hdec : decide ((opNm op).length < (opNm op ++ sfx op imm iv).length) = !(sfx op imm iv).isEmpty := by
   rw [List.length_append]
   cases sfx op imm iv <;> simp
  rw [hdec]
  cases him : immOp op with
  | false =>
   obtain ⟨e1, e2⟩ := h8 him
   subst e1 e2
   have e3 : sfx op 0 0 = [] := by unfold sfx; rw [if_neg (by decide), if_neg (by rw [him]; decide)]
   rw [e3]
   have e4 : n' = n := by unfold cnI at hc; rw [if_neg (by decide)] at hc; injection hc with hc; exact hc.symm
   subst e4
   simp
  | true =>
   by_cases hv : 0 < iv
   ·
    have e3 : sfx op imm iv = 46 :: inF iv := by unfold sfx; rw [if_pos hv]
    have e4 := h7 (by omega)
    subst e4
    obtain ⟨_, d2, d3⟩ := in_dec hv h6
    have d4 := look_in (left := left) hv h6 hn hc hl
    rw [e3]
    simp only [List.isEmpty_cons, List.tail_cons, d2]
    rw [show inF iv = [UInt8.ofNat (106 + iv.toNat)] from rfl]
    simp only [d3, d4]
    rw [if_neg (by simp), if_neg (by simp), if_pos ⟨trivial, by omega⟩]
    rw [show ((iv.toNat : Nat) : Int) = iv by omega]
   ·
    have e3 : sfx op imm iv = 46 :: textF imm := by unfold sfx; rw [if_neg hv, if_pos him]
    have e4 : iv = 0 := by omega
    subst e4
    have e5 : n' = n := by unfold cnI at hc; rw [if_neg (by decide)] at hc; injection hc with hc; exact hc.symm
    subst e5
    rw [e3]
    simp only [List.isEmpty_cons, List.tail_cons, decF_text h4]
    rw [if_neg (by simp), if_neg (by simp)]
theorem wOk_opw {op imm iv : Int} (h1 : 4 ≤ op) (h2 : op < 32) (h6 : iv ≤ 6) : wOk (opNm op ++ sfx op imm iv) = true ∧ opNm op ++ sfx op imm iv ≠ [] := by
 obtain ⟨o1, o2⟩ := opNm_ok h1 h2
 exact ⟨wOk_app o1 (wOk_sfx h6), fun q => o2 (List.append_eq_nil_iff.1 q).1⟩
mutual
theorem rt_term (left : Bool) : ∀ (p : Pt), Fm6 p → ∀ {m n m' n' k f : Nat}, cn p m n = some (m', n') → m' ≤ 6 → n' ≤ 6 → (left = false → m' = m ∧ n' = n) → Ws T k (wT p) → p.size ≤ f → termF T fin left f ⟨k, nm7 m, ni7 n⟩ = .ok (p, ⟨k + (wT p).length, nm7 m', ni7 n'⟩)
 | .mk v op imm iv ks, h, m, n, m', n', k, f, hc, hm, hn, hl, hw, hf => by
  have hsz : (Pt.mk v op imm iv ks).size = 1 + Pt.sizeL ks := by rw [Pt.size_eq]; rfl
  rw [hsz] at hf
  obtain ⟨f, rfl⟩ : ∃ g, f = g + 1 := ⟨f - 1, by omega⟩
  rw [termF_succ]
  have h0 := h
  cases h with
  | var h1 h2 =>
   have ew : wT (.mk v 0 0 0 []) = [vnF v] := by rw [wT, if_pos h1]
   rw [ew] at hw ⊢
   have ht := hw.cons.1
   have hwo := wOk_vn h1 h2
   have hne : vnF v ≠ [] := by simp [vnF]
   unfold cn at hc
   rw [if_pos h1] at hc
   have hcv : (if v ≤ m then some m else if v = m + 1 then some (m + 1) else none) = some m' ∧ n' = n := by
    split at hc
    ·
     rename_i q; injection hc with hc; injection hc with h3 h4; rw [if_pos q, h3]; exact ⟨rfl, h4.symm⟩
    ·
     rename_i q
     split at hc
     ·
      rename_i q2; injection hc with hc; injection hc with h3 h4; rw [if_neg q, if_pos q2, h3]; exact ⟨rfl, h4.symm⟩
     ·
      cases hc
   obtain ⟨hcv, rfl⟩ := hcv
   rw [if_neg (by show ¬ tkF T k = _; rw [ht]; intro q; injection q with q; exact (wOk_head hwo hne).2 q)]
   have hlk := look_vn (left := left) h1 h2 hm hcv (fun q => (hl q).1)
   have ha : atomF left (vnF v) ⟨k, nm7 m, ni7 n'⟩ = some (.mk v 0 0 0 [], ⟨k, nm7 m', ni7 n'⟩) := by
    unfold atomF
    rw [(vn_dec h1 h2).1]
    dsimp only
    rw [varF_vn h1 h2, hlk]
    dsimp only
    rw [if_pos (by omega), show ((v.toNat : Nat) : Int) = v by omega]
   exact wrd_of (x := ⟨k, nm7 m, ni7 n'⟩) ht hwo hne ha
  | cst h1 =>
   have ew : wT (.mk 0 1 imm 0 []) = [textF imm] := by rw [wT]; simp
   rw [ew] at hw ⊢
   have ht := hw.cons.1
   have hwo := wOk_text imm
   have hne := textF_ne imm
   have hc2 : m' = m ∧ n' = n := by
    simp [cn, cnI, cnL] at hc
    omega
   obtain ⟨rfl, rfl⟩ := hc2
   rw [if_neg (by show ¬ tkF T k = _; rw [ht]; intro q; injection q with q; exact (wOk_head hwo hne).2 q)]
   have ha : atomF left (textF imm) ⟨k, nm7 m', ni7 n'⟩ = some (.mk 0 1 imm 0 [], ⟨k, nm7 m', ni7 n'⟩) := by
    unfold atomF
    rw [decF_text h1]
   exact wrd_of (x := ⟨k, nm7 m', ni7 n'⟩) ht hwo hne ha
  | cim h1 h2 =>
   have ew : wT (.mk 0 1 0 iv []) = [36 :: inF iv] := by rw [wT]; simp [h1]
   rw [ew] at hw ⊢
   have ht := hw.cons.1
   have hwo : wOk (36 :: inF iv) = true := wOk_app (a := [36]) (by decide) (wOk_in h1 h2)
   have hne : 36 :: inF iv ≠ [] := by simp
   have hc2 : cnI iv n = some n' ∧ m' = m := by
    unfold cn at hc
    rw [if_neg (by decide)] at hc
    cases hq : cnI iv n with
    | none => rw [hq] at hc; cases hc
    | some n2 =>
     rw [hq] at hc
     simp only [cnL] at hc
     injection hc with hc; injection hc with h3 h4
     rw [h4]; exact ⟨rfl, h3.symm⟩
   obtain ⟨hcv, rfl⟩ := hc2
   rw [if_neg (by show ¬ tkF T k = _; rw [ht]; intro q; injection q with q; exact (wOk_head hwo hne).2 q)]
   have hlk := look_in (left := left) h1 h2 hn hcv (fun q => (hl q).2)
   have ha : atomF left (36 :: inF iv) ⟨k, nm7 m', ni7 n⟩ = some (.mk 0 1 0 iv [], ⟨k, nm7 m', ni7 n'⟩) := by
    unfold atomF
    rw [(in_dec h1 h2).1]
    dsimp only
    rw [(varF_in h1 h2 _ _).1, (varF_in h1 h2 _ _).2, hlk]
    dsimp only
    rw [if_neg (by decide), if_pos (by omega), show ((iv.toNat : Nat) : Int) = iv by omega]
   exact wrd_of (x := ⟨k, nm7 m', ni7 n⟩) ht hwo hne ha
  | app h1 h2 h3 h4 h5 h6 h7 h8 h9 =>
   have q1 : ¬ op = 1 := by omega
   have ew : wT (.mk 0 op imm iv ks) = [40] :: (opNm op ++ sfx op imm iv) :: (wTL ks ++ [[41]]) := by rw [wT]; simp [q1]
   rw [ew] at hw ⊢
   obtain ⟨t1, hw⟩ := hw.cons
   obtain ⟨t2, hw⟩ := hw.cons
   obtain ⟨w1, w2⟩ := hw.app
   have t3 := w2.cons.1
   unfold cn at hc
   rw [if_neg (by decide)] at hc
   cases hq : cnI iv n with
   | none => rw [hq] at hc; cases hc
   | some n2 =>
    rw [hq] at hc
    have mo := cnL_mono ks hc
    have m2 := cnI_mono hq
    rw [if_pos t1]
    obtain ⟨o1, o2⟩ := wOk_opw (imm := imm) h1 h2 h6
    have hop := oper_of (left := left) (i := k + 1) (m := m) h0 h1 hq (by omega) (fun q => by have := hl q; omega)
    have e1 := wrd_of (fin := fin) (x := ⟨k + 1, nm7 m, ni7 n⟩) t2 o1 o2 hop
    have e2 := rt_kids left ks h9 (f := f) hc hm hn (fun q => by have := hl q; omega) w1 (by omega)
    unfold appF
    rw [show ({ (⟨k, nm7 m, ni7 n⟩ : PS) with i := k + 1 } : PS) = ⟨k + 1, nm7 m, ni7 n⟩ from rfl, e1]
    dsimp only [Pt.op, Pt.imm, Pt.iv]
    rw [h3, Option.getD_some, e2]
    dsimp only
    have e3 : expF T fin [41] ⟨k + 1 + 1 + (wTL ks).length, nm7 m', ni7 n'⟩ = .ok ⟨k + 1 + 1 + (wTL ks).length + 1, nm7 m', ni7 n'⟩ := by
     unfold expF
     dsimp only
     rw [if_pos t3]
    rw [e3]
    dsimp only
    congr 2
    simp only [List.length_cons, List.length_append, List.length_nil]
    congr 1
    omega
theorem rt_kids (left : Bool) : ∀ (ks : List Pt), (∀ q ∈ ks, Fm6 q) → ∀ {m n m' n' k f : Nat}, cnL ks m n = some (m', n') → m' ≤ 6 → n' ≤ 6 → (left = false → m' = m ∧ n' = n) → Ws T k (wTL ks) → Pt.sizeL ks ≤ f → kidsF (termF T fin left f) ks.length ⟨k, nm7 m, ni7 n⟩ = .ok (ks, ⟨k + (wTL ks).length, nm7 m', ni7 n'⟩)
 | [], _, m, n, m', n', k, f, hc, _, _, _, _, _ => by
  unfold cnL at hc
  injection hc with hc; injection hc with h1 h2
  subst h1 h2
  simp [kidsF, wTL]
 | p :: ks, h, m, n, m', n', k, f, hc, hm, hn, hl, hw, hf => by
  unfold cnL at hc
  cases hq : cn p m n with
  | none => rw [hq] at hc; cases hc
  | some s =>
   obtain ⟨a, b⟩ := s
   rw [hq] at hc
   dsimp only at hc
   have m1 := cn_mono p hq
   have m2 := cnL_mono ks hc
   unfold wTL at hw ⊢
   obtain ⟨w1, w2⟩ := hw.app
   simp only [Pt.sizeL] at hf
   have e1 := rt_term left p (h p List.mem_cons_self) (f := f) hq (by omega) (by omega) (fun q => by have := hl q; omega) w1 (by omega)
   have e2 := rt_kids left ks (fun q hq => h q (List.mem_cons_of_mem _ hq)) (f := f) hc hm hn (fun q => by have := hl q; omega) w2 (by omega)
   rw [List.length_cons, kidsF, e1]
   dsimp only
   rw [e2]
   dsimp only
   rw [List.length_append, Nat.add_assoc]
end
end
end Go.Proofs.Ytblkgjdhaibhgaa
namespace Go.Proofs.Ytblkgjdhaibhgaa
open Go.RowKit
structure CdIn (m n : Nat) (c : Cd) : Prop where
 a1 : c.kind ≤ 5 → c.a ≤ m
 a2 : c.kind = 6 → c.a ≤ n
 b1 : c.kind = 4 → c.b ≤ m
 b2 : 5 ≤ c.kind → c.b ≤ n
section
variable {T : List (Bs × Nat)} {fin : Nat}
theorem vn_ne (a : Int) : vnF a ≠ [] := by simp [vnF]
theorem in_ne (a : Int) : inF a ≠ [] := by simp [inF]
theorem pvar_rt {k m : Nat} {a : Int} {ms : Bs} (ht : tkF T k = some (vnF a)) (h0 : 0 < a) (h1 : a ≤ m) (hm : m ≤ 6) : pvarF T fin ⟨k, nm7 m, ms⟩ = .ok (a.toNat, ⟨k + 1, nm7 m, ms⟩) := by
 have hl := look_vn (m := m) (m' := m) (left := false) h0 (by omega) hm (by rw [if_pos h1]) (fun _ => rfl)
 have h6 : a ≤ 6 := by omega
 unfold pvarF
 refine wrd_of (x := ⟨k, nm7 m, ms⟩) (y := ⟨k, nm7 m, ms⟩) ht (wOk_vn h0 h6) (vn_ne a) ?_
 rw [varF_vn h0 h6, hl]
 dsimp only
 rw [if_pos (by omega)]
theorem ivar_rt {k n : Nat} {a : Int} {vs : Bs} (ht : tkF T k = some (inF a)) (h0 : 0 < a) (h1 : a ≤ n) (hn : n ≤ 6) : ivarF T fin ⟨k, vs, ni7 n⟩ = .ok (a.toNat, ⟨k + 1, vs, ni7 n⟩) := by
 have hl := look_in (m := n) (m' := n) (left := false) h0 (by omega) hn (by unfold cnI; rw [if_pos h0, if_pos h1]) (fun _ => rfl)
 have h6 : a ≤ 6 := by omega
 unfold ivarF
 refine wrd_of (x := ⟨k, vs, ni7 n⟩) (y := ⟨k, vs, ni7 n⟩) ht (wOk_in h0 h6) (in_ne a) ?_
 unfold inF
 dsimp only
 rw [hl]
 dsimp only
 rw [if_pos ⟨(in_dec h0 h6).2.2, by omega⟩]
theorem numb_rt {k : Nat} {n : Int} {vs ms : Bs} (ht : tkF T k = some (textF n)) (h : I64 n) : numbF T fin ⟨k, vs, ms⟩ = .ok (n, ⟨k + 1, vs, ms⟩) := by
 unfold numbF
 refine wrd_of (x := ⟨k, vs, ms⟩) (y := ⟨k, vs, ms⟩) ht (wOk_text n) (textF_ne n) ?_
 rw [decF_text h]
 rfl
theorem kind_rt {k : Nat} {d : Int} {vs ms : Bs} (ht : tkF T k = some (condNm d)) (h0 : 1 ≤ d) (h1 : d ≤ 6) : kindF T fin ⟨k, vs, ms⟩ = .ok (d.toNat, ⟨k + 1, vs, ms⟩) := by
 unfold kindF
 refine wrd_of (x := ⟨k, vs, ms⟩) (y := ⟨k, vs, ms⟩) ht (condNm_ok h0 h1).1 (condNm_ok h0 h1).2 ?_
 obtain ⟨i, hi⟩ : ∃ i : Fin 6, d = 1 + (i.val : Int) := ⟨⟨(d - 1).toNat, by omega⟩, by show d = 1 + ((d - 1).toNat : Int); omega⟩
 have := cond_parts i
 unfold condNm
 rw [show (d - 1).toNat = i.val by omega, show d.toNat = i.val + 1 by omega, List.getD, List.getElem?_eq_getElem i.isLt, Option.getD_some, this]
 rfl
theorem cond_rt {c : Cd} (h : Cd6 c) {k m n : Nat} (hi : CdIn m n c) (hm : m ≤ 6) (hn : n ≤ 6) (hw : Ws T k (wC c)) : pcondF T fin ⟨k, nm7 m, ni7 n⟩ = .ok (c, ⟨k + (wC c).length, nm7 m, ni7 n⟩) := by
 obtain ⟨kd, a, b, nn⟩ := c
 have k0 := h.k0
 have k1 := h.k1
 have a0 := h.a0
 have b0 := h.b0
 have b1 := h.b1
 have n0 := h.n0
 have n1 := h.n1
 have i1 := hi.a1
 have i2 := hi.a2
 have i3 := hi.b1
 have i4 := hi.b2
 dsimp only at k0 k1 a0 b0 b1 n0 n1 i1 i2 i3 i4
 obtain ⟨t1, hw⟩ := hw.cons
 dsimp only at t1 hw
 have e1 := kind_rt (fin := fin) (vs := nm7 m) (ms := ni7 n) t1 k0 k1
 unfold pcondF
 rw [e1]
 dsimp only
 have hk : kd = 1 ∨ kd = 2 ∨ kd = 3 ∨ kd = 4 ∨ kd = 5 ∨ kd = 6 := by omega
 rcases hk with rfl | rfl | rfl | rfl | rfl | rfl
 ·
  have t2 := hw.cons.1
  have e2 := pvar_rt (fin := fin) (ms := ni7 n) t2 a0 (i1 (by omega)) hm
  simp only [show ((1 : Int).toNat) = 1 from rfl, e2]
  have := b1 (by omega); have := n0 (by omega) (by omega)
  subst b nn
  simp [wC, Int.toNat_of_nonneg (Int.le_of_lt a0)]
 ·
  obtain ⟨t2, hw⟩ := hw.cons
  have t3 := hw.cons.1
  have e2 := pvar_rt (fin := fin) (ms := ni7 n) t2 a0 (i1 (by omega)) hm
  have e3 := numb_rt (fin := fin) (vs := nm7 m) (ms := ni7 n) t3 n1
  simp only [show ((2 : Int).toNat) = 2 from rfl, if_neg (show ¬ (2 : Nat) = 6 by decide), e2]
  rw [if_neg (by decide), if_pos (by decide), e3]
  dsimp only
  have := b1 (by omega)
  subst b
  simp [wC, Int.toNat_of_nonneg (Int.le_of_lt a0)]
 ·
  obtain ⟨t2, hw⟩ := hw.cons
  have t3 := hw.cons.1
  have e2 := pvar_rt (fin := fin) (ms := ni7 n) t2 a0 (i1 (by omega)) hm
  have e3 := numb_rt (fin := fin) (vs := nm7 m) (ms := ni7 n) t3 n1
  simp only [show ((3 : Int).toNat) = 3 from rfl, if_neg (show ¬ (3 : Nat) = 6 by decide), e2]
  rw [if_neg (by decide), if_pos (by decide), e3]
  dsimp only
  have := b1 (by omega)
  subst b
  simp [wC, Int.toNat_of_nonneg (Int.le_of_lt a0)]
 ·
  obtain ⟨t2, hw⟩ := hw.cons
  have t3 := hw.cons.1
  have hb := b0 (by omega)
  have e2 := pvar_rt (fin := fin) (ms := ni7 n) t2 a0 (i1 (by omega)) hm
  have e3 := pvar_rt (fin := fin) (ms := ni7 n) t3 hb.1 (i3 (by omega)) hm
  simp only [show ((4 : Int).toNat) = 4 from rfl, if_neg (show ¬ (4 : Nat) = 6 by decide), e2]
  rw [if_neg (by decide), if_neg (by decide), e3]
  dsimp only
  have := n0 (by omega) (by omega)
  subst nn
  simp [wC, Int.toNat_of_nonneg (Int.le_of_lt a0), Int.toNat_of_nonneg (Int.le_of_lt hb.1)]
 ·
  obtain ⟨t2, hw⟩ := hw.cons
  have t3 := hw.cons.1
  have hb := b0 (by omega)
  have e2 := pvar_rt (fin := fin) (ms := ni7 n) t2 a0 (i1 (by omega)) hm
  have e3 := ivar_rt (fin := fin) (vs := nm7 m) t3 hb.1 (i4 (by omega)) hn
  simp only [show ((5 : Int).toNat) = 5 from rfl, if_neg (show ¬ (5 : Nat) = 6 by decide), e2]
  rw [if_neg (by decide), if_neg (by decide), if_neg (by decide), e3]
  dsimp only
  have := n0 (by omega) (by omega)
  subst nn
  simp [wC, Int.toNat_of_nonneg (Int.le_of_lt a0), Int.toNat_of_nonneg (Int.le_of_lt hb.1)]
 ·
  obtain ⟨t2, hw⟩ := hw.cons
  have t3 := hw.cons.1
  have hb := b0 (by omega)
  have e2 := ivar_rt (fin := fin) (vs := nm7 m) t2 a0 (i2 (by omega)) hn
  have e3 := ivar_rt (fin := fin) (vs := nm7 m) t3 hb.1 (i4 (by omega)) hn
  simp only [show ((6 : Int).toNat) = 6 from rfl, if_true, e2]
  rw [if_neg (by decide), if_neg (by decide), if_neg (by decide), e3]
  dsimp only
  have := n0 (by omega) (by omega)
  subst nn
  simp [wC, Int.toNat_of_nonneg (Int.le_of_lt a0), Int.toNat_of_nonneg (Int.le_of_lt hb.1)]
theorem conds_rt {m n : Nat} (hm : m ≤ 6) (hn : n ≤ 6) : ∀ (cs : List Cd) (k f : Nat), (∀ c ∈ cs, Cd6 c ∧ CdIn m n c) → Ws T k (wCs cs false) → ¬ tkF T (k + (wCs cs false).length) = some [44] → cs.length < f → condsF T fin f ⟨k, nm7 m, ni7 n⟩ = .ok (cs, ⟨k + (wCs cs false).length, nm7 m, ni7 n⟩)
 | [], k, f, _, _, hn44, hf => by
  obtain ⟨f, rfl⟩ : ∃ g, f = g + 1 := ⟨f - 1, by omega⟩
  simp only [wCs, List.length_nil, Nat.add_zero] at hn44
  rw [condsF, if_neg hn44]
  rfl
 | c :: cs, k, f, h, hw, hn44, hf => by
  obtain ⟨f, rfl⟩ : ∃ g, f = g + 1 := ⟨f - 1, by omega⟩
  obtain ⟨h1, h2⟩ := h c List.mem_cons_self
  have ew : wCs (c :: cs) false = [44] :: (wC c ++ wCs cs false) := by rw [wCs]; rfl
  rw [ew] at hw hn44 ⊢
  obtain ⟨t1, hw⟩ := hw.cons
  obtain ⟨w1, w2⟩ := hw.app
  have e1 := cond_rt (fin := fin) h1 h2 hm hn w1
  have e2 := conds_rt hm hn cs (k + 1 + (wC c).length) f (fun d hd => h d (List.mem_cons_of_mem _ hd)) w2 (by
   intro q; apply hn44; rw [← q]; congr 1; simp only [List.length_cons, List.length_append]; omega) (by simp at hf; omega)
  rw [condsF, if_pos t1]
  dsimp only
  rw [e1]
  dsimp only
  rw [e2]
  dsimp only
  congr 2
  simp only [List.length_cons, List.length_append]
  congr 1
  omega
theorem if_rt {m n : Nat} (hm : m ≤ 6) (hn : n ≤ 6) (cs : List Cd) (k f : Nat) (h : ∀ c ∈ cs, Cd6 c ∧ CdIn m n c) (hw : Ws T k (wCs cs true)) (hx : tkF T (k + (wCs cs true).length) = some [59]) (hf : cs.length < f) : ifF T fin f ⟨k, nm7 m, ni7 n⟩ = .ok (cs, ⟨k + (wCs cs true).length, nm7 m, ni7 n⟩) := by
 cases cs with
 | nil =>
  simp only [wCs, List.length_nil, Nat.add_zero] at hx
  unfold ifF
  rw [if_neg (by dsimp only; rw [hx]; decide)]
  rfl
 | cons c cs =>
  obtain ⟨h1, h2⟩ := h c List.mem_cons_self
  have ew : wCs (c :: cs) true = [105, 102] :: (wC c ++ wCs cs false) := by rw [wCs]; rfl
  rw [ew] at hw hx ⊢
  obtain ⟨t1, hw⟩ := hw.cons
  obtain ⟨w1, w2⟩ := hw.app
  have e1 := cond_rt (fin := fin) h1 h2 hm hn w1
  have e2 := conds_rt (fin := fin) hm hn cs (k + 1 + (wC c).length) f (fun d hd => h d (List.mem_cons_of_mem _ hd)) w2 (by
   rw [show k + 1 + (wC c).length + (wCs cs false).length = k + ([105, 102] :: (wC c ++ wCs cs false)).length by simp only [List.length_cons, List.length_append]; omega, hx]; decide) (by simp at hf; omega)
  unfold ifF
  rw [if_pos t1]
  dsimp only
  rw [e1]
  dsimp only
  rw [e2]
  dsimp only
  congr 2
  simp only [List.length_cons, List.length_append]
  congr 1
  omega
end
theorem wT_len : ∀ p : Pt, Fm6 p → p.size ≤ (wT p).length := by
 intro p
 induction p using Pt.ind with
 | h p ih =>
  intro h
  have hk : (∀ k ∈ p.kids, Fm6 k) → Pt.sizeL p.kids ≤ (wTL p.kids).length := fun hk => by
   have key : ∀ ks : List Pt, (∀ k ∈ ks, k.size ≤ (wT k).length) → Pt.sizeL ks ≤ (wTL ks).length := by
    intro ks
    induction ks with
    | nil => intro _; simp [Pt.sizeL]
    | cons k ks ihk =>
     intro hh
     have h1 := hh k List.mem_cons_self
     have h2 := ihk fun q hq => hh q (List.mem_cons_of_mem _ hq)
     simp only [Pt.sizeL, wTL, List.length_append]
     omega
   exact key _ fun k hq => ih k hq (hk k hq)
  rw [Pt.size_eq]
  cases h with
  | var h1 h2 => rw [wT, if_pos h1]; simp [Pt.sizeL, Pt.kids]
  | cst h1 => rw [wT]; simp [Pt.sizeL, Pt.kids]
  | cim h1 h2 => rw [wT]; simp [Pt.sizeL, Pt.kids]
  | app h1 h2 h3 h4 h5 h6 h7 h8 h9 =>
   have := hk h9
   rename_i op imm iv ks
   have q1 : ¬ op = 1 := by omega
   rw [wT, if_neg (by decide), if_neg q1]
   simp only [List.length_cons, List.length_append, List.length_nil]
   dsimp only [Pt.kids] at *
   omega
structure Rt (r : Rl) (m n : Nat) : Prop where
 t : Rt6 r
 vs : r.vars = (m : Int)
 is : r.imms = (n : Int)
 m6 : m ≤ 6
 n6 : n ≤ 6
 cl : cn r.l 0 0 = some (m, n)
 cr : cn r.r m n = some (m, n)
 ci : ∀ c ∈ r.conds, CdIn m n c
theorem wCs_len : ∀ (cs : List Cd) (b : Bool), cs.length ≤ (wCs cs b).length
 | [], b => by simp
 | c :: cs, b => by
  have := wCs_len cs false
  rw [wCs]
  simp only [List.length_cons, List.length_append]
  omega
theorem ws_all (ws : List Bs) : Ws (ws.map fun s => (s, 0)) 0 ws := by
 intro j hj
 unfold tkF
 rw [Nat.zero_add, List.getElem?_map, List.getElem?_eq_getElem hj]
 rfl
theorem any_rt {T : List (Bs × Nat)} {fin k : Nat} {vs ms s : Bs} (ht : tkF T k = some s) (hw : wOk s = true) (hn : s ≠ []) : anyF T fin ⟨k, vs, ms⟩ = .ok (s, ⟨k + 1, vs, ms⟩) := by
 unfold anyF
 exact wrd_of (x := ⟨k, vs, ms⟩) (y := ⟨k, vs, ms⟩) ht hw hn rfl
theorem exp_rt {T : List (Bs × Nat)} {fin k : Nat} {vs ms s : Bs} (ht : tkF T k = some s) : expF T fin s ⟨k, vs, ms⟩ = .ok ⟨k + 1, vs, ms⟩ := by
 unfold expF
 dsimp only
 rw [if_pos ht]
theorem nm7_len (m : Nat) : (nm7 m).length = m := by simp [nm7]
theorem ni7_len (m : Nat) : (ni7 m).length = m := by simp [ni7]
theorem rule_rt {r : Rl} {m n : Nat} (h : Rt r m n) {ax : Bs → Option Rl} : ItemOk ax (wR r) r := by
 have hW := ws_all (wR r)
 obtain ⟨T, hT⟩ : ∃ T, ((wR r).map fun s => ((s, 0) : Bs × Nat)) = T := ⟨_, rfl⟩
 have hTl : T.length = (wR r).length := by rw [← hT, List.length_map]
 rw [hT] at hW
 have el : (wR r).length = 3 + (wT r.l).length + 1 + (wT r.r).length + (wCs r.conds true).length + 1 := by
  unfold wR
  simp only [List.length_cons, List.length_append, List.length_nil]
 refine ⟨by intro q; rw [q] at el; simp at el, 0, ?_⟩
 rw [hT]
 have hW2 : Ws T 0 ([114, 117, 108, 101] :: kx r.name :: [58] :: (wT r.l ++ ([61, 62] :: (wT r.r ++ (wCs r.conds true ++ [[59]]))))) := by
  have e : wR r = [114, 117, 108, 101] :: kx r.name :: [58] :: (wT r.l ++ ([61, 62] :: (wT r.r ++ (wCs r.conds true ++ [[59]])))) := by simp [wR]
  rw [← e]
  exact hW
 obtain ⟨t1, hW2⟩ := hW2.cons
 obtain ⟨t2, hW2⟩ := hW2.cons
 obtain ⟨t3, hW2⟩ := hW2.cons
 obtain ⟨w1, hW2⟩ := hW2.app
 obtain ⟨t4, hW2⟩ := hW2.cons
 obtain ⟨w2, hW2⟩ := hW2.app
 obtain ⟨w3, hW2⟩ := hW2.app
 have t5 := hW2.cons.1
 simp only [Nat.zero_add] at t1 t2 t3 w1 t4 w2 w3 t5
 obtain ⟨n1, n2⟩ := name_ok h.t.n
 have s1 := wT_len r.l h.t.l
 have s2 := wT_len r.r h.t.r
 have s3 := wCs_len r.conds true
 have e1 := any_rt (fin := 0) (vs := []) (ms := []) t2 n1 n2
 have e2 := exp_rt (fin := 0) (vs := []) (ms := []) t3
 have e3 := rt_term (fin := 0) true r.l h.t.l (f := T.length + 1) h.cl h.m6 h.n6 (fun q => by cases q) w1 (by omega)
 have e4 := exp_rt (fin := 0) (vs := nm7 m) (ms := ni7 n) t4
 have e5 := rt_term (fin := 0) false r.r h.t.r (f := T.length + 1) h.cr h.m6 h.n6 (fun _ => ⟨rfl, rfl⟩) w2 (by omega)
 have e6 := if_rt (fin := 0) h.m6 h.n6 r.conds _ (T.length + 1) (fun c hc => ⟨h.t.c c hc, h.ci c hc⟩) w3 t5 (by omega)
 have e7 := exp_rt (fin := 0) (vs := nm7 m) (ms := ni7 n) t5
 have e0 : ruleF T 0 ⟨1, [], []⟩ = .ok (r, ⟨(wR r).length, nm7 m, ni7 n⟩) := by
  unfold ruleF
  dsimp only
  rw [e1]
  dsimp only
  rw [e2]
  dsimp only
  rw [show (⟨1 + 1 + 1, [], []⟩ : PS) = ⟨1 + 1 + 1, nm7 0, ni7 0⟩ from rfl, e3]
  dsimp only
  rw [e4]
  dsimp only
  rw [e5]
  dsimp only
  rw [e6]
  dsimp only
  rw [e7]
  dsimp only
  rw [nm7_len, ni7_len, ← h.vs, ← h.is]
  have en : (⟨(kx r.name).toArray⟩ : ByteArray) = r.name := rfl
  rw [en]
  congr 2
  congr 1
  omega
 refine ⟨⟨(wR r).length, nm7 m, ni7 n⟩, ?_, rfl⟩
 unfold itemF
 rw [if_neg (by dsimp only; rw [t1]; decide)]
 rw [exp_rt t1]
 dsimp only
 rw [show (0 : Nat) + 1 = 1 from rfl, e0]
 dsimp only
 have ho : offF T 0 1 = 0 := by
  unfold offF
  rw [← hT, List.getElem?_map]
  cases (wR r)[1]? <;> rfl
 rw [ho]
end Go.Proofs.Ytblkgjdhaibhgaa
namespace Go.Proofs.Ytblkgjdhaibhgaa
open Go.RowKit
theorem oS_ar {op : Int} (h : (oSortsF op).2.2 = true) (h4 : 4 ≤ op) : arF op = some (oSortsF op).1.length := by
 have h32 : op < 32 := by rcases oS_ops h with q | q <;> omega
 obtain ⟨i, hi⟩ : ∃ i : Fin 28, op = 4 + (i.val : Int) := ⟨⟨(op - 4).toNat, by omega⟩, by show op = 4 + ((op - 4).toNat : Int); omega⟩
 have key : ∀ i : Fin 28, (oSortsF (4 + (i.val : Int))).2.2 = true → arF (4 + (i.val : Int)) = some (oSortsF (4 + (i.val : Int))).1.length := by decide +kernel
 subst hi
 exact key i h
theorem shp_fm6 (p : Pt) : ∀ (s m : Int) (n : Nat), shp p s m n = true → m ≤ 6 → n ≤ 6 → PI p → Fm6 p := by
 induction p using Pt.ind with
 | h p ih =>
  intro s m n hs hm hn hi
  by_cases hv : p.v = 0
  ·
   rw [shp_op hv, Bool.and_eq_true, decide_eq_true_iff] at hs
   obtain ⟨⟨h1, h2, _, h4⟩, h5⟩ := hs
   have hI := hi p (nodes_self p)
   have hks : ∀ k ∈ p.kids, Fm6 k := fun k hk => by
    obtain ⟨i, hi2, rfl⟩ := List.mem_iff_getElem.1 hk
    exact ih _ hk _ m n (shpL_at hi2 h5) hm hn (hi.kid hk)
   have hiv : 0 ≤ p.iv ∧ p.iv ≤ 6 ∧ (p.iv ≠ 0 → p.imm = 0 ∧ hasImmF p.op = true) := by
    unfold pImmF at h4
    split at h4
    ·
     simp only [Bool.and_eq_true, decide_eq_true_iff] at h4; exact ⟨by omega, by omega, fun _ => ⟨h4.2.1, h4.1⟩⟩
    ·
     rename_i q; exact ⟨by omega, by omega, fun q2 => absurd q2 q⟩
   cases p with
   | mk v op imm iv ks =>
    dsimp only [Pt.v, Pt.op, Pt.imm, Pt.iv, Pt.kids] at *
    subst hv
    rcases oS_ops h1 with rfl | ⟨a, b⟩
    ·
     have hk0 : ks = [] := List.length_eq_zero_iff.1 (by rw [h2]; rfl)
     subst hk0
     by_cases q : iv = 0
     ·
      subst q; exact .cst hI
     ·
      have := (hiv.2.2 q).1
      subst this
      exact .cim (by omega) hiv.2.1
    ·
     refine .app a b (by rw [oS_ar h1 a, h2]) hI hiv.1 hiv.2.1 (fun q => (hiv.2.2 q).1) (fun q => ?_) hks
     have q1 : ¬ (op = 1 ∨ op = 23 ∨ op = 27 ∨ op = 28) := by
      simp only [immOp, decide_eq_false_iff_not] at q
      omega
     have e0 : iv = 0 := by
      by_cases q2 : iv = 0
      ·
       exact q2
      ·
       have := (hiv.2.2 q2).2
       simp only [hasImmF, decide_eq_true_eq] at this
       exact absurd this q1
     refine ⟨?_, e0⟩
     unfold pImmF at h4
     split at h4
     ·
      rename_i q2; exact absurd e0 q2
     ·
      split at h4
      ·
       rename_i q2; dsimp only [Pt.op] at q2; exact absurd q2 (by omega)
      ·
       split at h4
       ·
        rename_i q2; dsimp only [Pt.op] at q2; exact absurd q2 (by omega)
       ·
        rw [decide_eq_true_eq] at h4; dsimp only [Pt.op, Pt.imm] at h4; omega
  ·
   rw [shp_var hv, decide_eq_true_iff] at hs
   cases p with
   | mk v op imm iv ks =>
    dsimp only [Pt.v, Pt.op, Pt.imm, Pt.iv, Pt.kids] at *
    obtain ⟨rfl, rfl, rfl, hk⟩ : op = 0 ∧ imm = 0 ∧ iv = 0 ∧ ks.length = 0 := by omega
    obtain rfl := List.length_eq_zero_iff.1 hk
    exact .var (by omega) (by omega)
theorem cn_full (p : Pt) : ∀ (s m : Int) (n : Nat), shp p s m n = true → cn p n m.toNat = some (n, m.toNat) := by
 induction p using Pt.ind with
 | h p ih =>
  intro s m n hs
  by_cases hv : p.v = 0
  ·
   rw [shp_op hv, Bool.and_eq_true, decide_eq_true_iff] at hs
   obtain ⟨⟨h1, h2, _, h4⟩, h5⟩ := hs
   have hiv : cnI p.iv m.toNat = some m.toNat := by
    unfold cnI
    unfold pImmF at h4
    split at h4
    ·
     simp only [Bool.and_eq_true, decide_eq_true_iff] at h4
     rw [if_pos (by omega), if_pos (by omega)]
    ·
     rename_i q; rw [if_neg (by omega)]
   have hks : cnL p.kids n m.toNat = some (n, m.toNat) := by
    have key : ∀ ks : List Pt, (∀ k ∈ ks, cn k n m.toNat = some (n, m.toNat)) → cnL ks n m.toNat = some (n, m.toNat) := by
     intro ks
     induction ks with
     | nil => intro _; simp [cnL]
     | cons k ks ihk =>
      intro hh
      rw [cnL, hh k List.mem_cons_self]
      exact ihk fun q hq => hh q (List.mem_cons_of_mem _ hq)
    refine key _ fun k hk => ?_
    obtain ⟨i, hi2, rfl⟩ := List.mem_iff_getElem.1 hk
    exact ih _ hk _ m n (shpL_at hi2 h5)
   cases p with
   | mk v op imm iv ks =>
    dsimp only [Pt.v, Pt.op, Pt.imm, Pt.iv, Pt.kids] at *
    rw [cn, if_neg (by omega), hiv]
    exact hks
  ·
   rw [shp_var hv, decide_eq_true_iff] at hs
   cases p with
   | mk v op imm iv ks =>
    dsimp only [Pt.v, Pt.op, Pt.imm, Pt.iv, Pt.kids] at *
    rw [cn, if_pos (by omega), if_pos (by omega)]
theorem cond_6 {c : Cd} {ss : List Int} {m : Int} {n : Nat} (h : condF c ss m = true) (hs : ss.length = n + 1) (hn6 : n ≤ 6) (hm : 0 ≤ m ∧ m ≤ 6) (hn : I64 c.n) : Cd6 c ∧ CdIn n m.toNat c := by
 unfold condF at h
 split at h
 ·
  simp only [isValF, Bool.and_eq_true, decide_eq_true_iff] at h
  exact ⟨⟨by omega, by omega, by omega, by omega, by omega, by omega, by omega, hn⟩, ⟨by omega, by omega, by omega, by omega⟩⟩
 ·
  split at h
  ·
   simp only [isValF, Bool.and_eq_true, decide_eq_true_iff] at h
   exact ⟨⟨by omega, by omega, by omega, by omega, by omega, by omega, by omega, hn⟩, ⟨by omega, by omega, by omega, by omega⟩⟩
  ·
   split at h
   ·
    simp only [isValF, Bool.and_eq_true, decide_eq_true_iff] at h
    exact ⟨⟨by omega, by omega, by omega, by omega, by omega, by omega, by omega, hn⟩, ⟨by omega, by omega, by omega, by omega⟩⟩
   ·
    split at h
    ·
     simp only [isValF, isImmF, Bool.and_eq_true, decide_eq_true_iff] at h
     exact ⟨⟨by omega, by omega, by omega, by omega, by omega, by omega, by omega, hn⟩, ⟨by omega, by omega, by omega, by omega⟩⟩
    ·
     split at h
     ·
      simp only [isImmF, Bool.and_eq_true, decide_eq_true_iff] at h
      exact ⟨⟨by omega, by omega, by omega, by omega, by omega, by omega, by omega, hn⟩, ⟨by omega, by omega, by omega, by omega⟩⟩
     ·
      cases h
theorem rt_of {r : Rl} (h : implF r = true) (hi : RlI r) (hc : cn r.l 0 0 = some (r.vars.toNat, r.imms.toNat)) : Rt r r.vars.toNat r.imms.toNat := by
 have k := imp_ok h
 have hv := k.vars
 have him := k.imms
 have kc := fun x hx => cond_6 (n := r.vars.toNat) (k.cnd x hx) (by simp) (by omega) him (hi.c x hx)
 exact ⟨⟨k.name, shp_fm6 _ _ _ _ k.shl him.2 (by omega) hi.l, shp_fm6 _ _ _ _ k.shr him.2 (by omega) hi.r, fun x hx => (kc x hx).1⟩, by omega, by omega, by omega, by omega, hc, cn_full _ _ _ _ k.shr, fun x hx => (kc x hx).2⟩
end Go.Proofs.Ytblkgjdhaibhgaa
namespace Go.Proofs.Ytblkgjdhaibhgaa
open Go.RowKit
theorem PtK.swap {w : World} {F : Nat → Prop} {p : Pt} {KA : Option Addr} {kc : Nat} (h : PtK w F p KA kc) (a b c d : Int) : PtK w F (.mk a b c d p.kids) KA kc := by
 rw [PtK.iff] at h ⊢
 exact h
def NS (w : World) (A : Option Addr) (c : Nat) (vs : List Int) (B : Option Addr) (d : Nat) (ms : List Int) : Prop :=
 Own w 3 1 A vs.length c (icells vs) ∧ Own w 3 1 B ms.length d (icells ms) ∧ ∀ k, At A k → ¬ At B k
theorem NS.upd {w w' : World} {S : Nat → Prop} {A B : Option Addr} {c d : Nat} {vs ms : List Int} (h : NS w A c vs B d ms) (u : Upd S w w') (hA : ∀ k, At A k → ¬ S k) (hB : ∀ k, At B k → ¬ S k) : NS w' A c vs B d ms := ⟨h.1.upd u hA, h.2.1.upd u hB, h.2.2⟩
end Go.Proofs.Ytblkgjdhaibhgaa
namespace Go.Proofs.Ytblkgjdhaibhgaa
open Go.RowKit
theorem NS.none_ (w : World) : NS w none 0 [] none 0 [] := ⟨Own.none_, Own.none_, fun _ h => (At.none_ h).elim⟩
end Go.Proofs.Ytblkgjdhaibhgaa
namespace Go.Proofs.Ytblkgjdhaibhgaa
open Go.RowKit
end Go.Proofs.Ytblkgjdhaibhgaa
