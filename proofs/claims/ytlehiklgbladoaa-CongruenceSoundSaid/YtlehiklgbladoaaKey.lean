/-
  What (unionFind).key does: it writes the operation, the immediate operand and the classes of the operands as bytes.
-/
import Derived.Test.YtlehiklgbladoaaAppU
import Derived.Test.YtlehiklgbladoaaUf
namespace Go.Proofs.Ytlehiklgbladoaa
open Go.RowKit

/-- The bytes of the key, as numbers. -/
def byts (x : Int) : List Int := (List.range 8).map fun j => byteAt x j
def keyNs (op imm : Int) (cs : List Nat) : List Int := byts (IntKind.u64.wrap op) ++ byts (IntKind.u64.wrap imm) ++ cs.flatMap fun (x : Nat) => byts (IntKind.u64.wrap (x : Int))
def KeyRet (n : Nat) (c : Nat → Nat) (op imm : Int) (kids : List Int) (e : Ending) : Prop :=
  e = .returned (.tuple #[.string (if okKids n kids then bstr (keyNs op imm (kidCs c kids)) else ⟨#[]⟩), .bool (okKids n kids)])
def cell8 (ns : List Int) : List Value := ns.map fun x => Value.int .u8 x
theorem cell8_byts (x : Int) : bytesTo x 8 = cell8 (byts x) := by simp [bytesTo, cell8, byts]
theorem cell8_append (a b : List Int) : cell8 a ++ cell8 b = cell8 (a ++ b) := by simp [cell8]
theorem len_keyNs (op imm : Int) (cs : List Nat) : (keyNs op imm cs).length = 16 + 8 * cs.length := by
  simp only [keyNs, byts, List.length_append, List.length_map, List.length_range, List.length_flatMap]
  have : ∀ l : List Nat, (l.map fun _ => 8).sum = 8 * l.length := by
    intro l; induction l with
    | nil => rfl
    | cons a l ih => simp [ih]; omega
  rw [this]
theorem keyNs_snoc (op imm : Int) (cs : List Nat) (x : Nat) : keyNs op imm (cs ++ [x]) = keyNs op imm cs ++ byts (IntKind.u64.wrap (x : Int)) := by
  simp [keyNs, List.append_assoc]
theorem kidCs_snoc (c : Nat → Nat) (kids : List Int) (k : Nat) (h : k < kids.length) : kidCs c (kids.take (k + 1)) = kidCs c (kids.take k) ++ [c kids[k].toNat] := by
  unfold kidCs; rw [List.take_succ_eq_append_getElem h, List.map_append]; rfl

set_option maxHeartbeats 1000000 in
theorem key_c (b : Nat) (w : World) (l : List Nat) (c : Nat → Nat) (hb : Blk w b 3 (ints l)) (hr : Rep l c) (op imm : Int) (kids : List Int) (KA : Option Addr) (kc : Nat) (F : Nat → Prop)
    (hF : ∀ k, F k → k ≠ b) (hk : Ints w F KA kids) (hn : 8 * kids.length + 16 ≤ 140737488355328) :
    Calls Try.prog 18 #[.slice (some ⟨b, 0, none⟩) l.length l.length, .agg #[.int .i64 op, .int .i64 imm, .slice KA kids.length kc]] w fun e w' =>
      KeyRet l.length c op imm kids e ∧ ∃ l', l'.length = l.length ∧ Rep l' c ∧ Blk w' b 3 (ints l') ∧ Upd (· = b) w w' := by
  obtain ⟨n, Hn⟩ : ∃ n, Hid (l.length = n) := ⟨_, rfl⟩
  rw [Hn.out]
  have hblt := hb.lt
  go_enter Try.func18, Try.ntmps18
  go_wp2_with fail
  refine (appendU_c _ _ _ [] _ _ Own.none_ (by omega)).mono ?_
  rintro e w1 ⟨A1, c1, rfl, ho1, hu1, hat1⟩
  have hx1 := (Blk.new w 24 #[Value.int IntKind.i64 op, Value.int IntKind.i64 imm, Value.slice KA kids.length kc]).upd hu1 At.none_
  have U1 : Upd Non w w1 := (Upd.refl.alloc _).trans hu1 (fun _ _ h => (At.none_ h).elim)
  have cx1 := hx1.cell 1
  go_wp2_with fail
  refine (appendU_c A1 8 c1 _ _ _ ho1 (by omega)).mono ?_
  rintro e w2 ⟨A2, c2, rfl, ho2, hu2, hat2⟩
  have hA1 : ∀ k, At A1 k → w.heap.size < k := fun k hk => by
    rcases hat1 k hk with h | h
    · exact (At.none_ h).elim
    · simp at h; omega
  have hx2 := hx1.upd hu2 (fun h => by have := hA1 _ h; omega)
  have U2 : Upd Non w w2 := U1.trans hu2 (fun i hi h => by have := hA1 _ h; omega)
  have hA2 : ∀ k, At A2 k → w.heap.size < k := fun k hk => by
    rcases hat2 k hk with h | h
    · exact hA1 k h
    · have := hx1.lt; omega
  have cx2 := hx2.cell 2
  clear cx1 hx1 hu1 hu2 hat1 hat2
  have ho2' : Own w2 5 1 A2 16 c2 (cell8 (keyNs op imm (kidCs c (kids.take 0)))) := by
    have := ho2
    simp only [List.nil_append, cell8_byts, cell8_append] at this
    simpa [keyNs, kidCs] using this
  clear ho1 ho2
  have HA : Hid (∀ j, At A2 j → w.heap.size ≤ j) := fun j hj => by have := hA2 j hj; omega
  clear hA2 hA1
  go_wp2_with fail
  go_loopw [6, 21] (fun v i wr => ∃ (k : Nat) (A' : Option Addr) (c' : Nat) (l' : List Nat), k ≤ kids.length ∧ i = .int .i64 k ∧ v = .slice A' (16 + 8 * k) c' ∧ Own wr 5 1 A' (16 + 8 * k) c' (cell8 (keyNs op imm (kidCs c (kids.take k)))) ∧
    Hid (okKids n (kids.take k) = true) ∧ Hid (l'.length = n) ∧ Rep l' c ∧ Blk wr b 3 (ints l') ∧ Upd (· = b) w wr ∧ Hid (∀ j, At A' j → w.heap.size ≤ j)) (fun _ i _ => kids.length - (intOf i).toNat)
  case atStart => exact ⟨0, A2, c2, l, by omega, rfl, rfl, ho2', by simp [okKids, Hid], Hn, hr, hb.upd U2 (fun f => f), U2.mono (fun _ _ f => f.elim), HA⟩
  case round =>
    obtain ⟨k, A3, c3, l3, hk3, rfl, rfl, ho3, Hok, Hl3, hr3, hb3, hu3, HA3⟩ := hrel
    have hk' := hk.upd hu3 (fun k _ hf => hF k hf)
    clear ho2' HA hx2 U1 U2 cx2
    by_cases hlt : k < kids.length
    · obtain ⟨kb, koff, rfl, hFk, _, hck⟩ := hk'.at_ hlt
      clear hk'
      have hok1 : okKids n (kids.take (k + 1)) = (okKids n (kids.take k) && (decide (0 ≤ kids[k]) && decide (kids[k] < n))) := by
        unfold okKids; rw [List.take_succ_eq_append_getElem hlt, List.all_append]; simp only [List.all_cons, List.all_nil, Bool.and_true]
      rw [Hok.out, Bool.true_and] at hok1
      have HOK1 := Lib.hid hok1
      clear hok1
      have HKC := Lib.hid (kidCs_snoc c kids k hlt)
      have HBAD : Hid (¬ (0 ≤ kids[k] ∧ kids[k] < n) → okKids n kids = false) := by
        intro hbad
        rw [okKids, List.all_eq_false]
        exact ⟨kids[k], List.getElem_mem hlt, by simpa using hbad⟩
      generalize kids[k] = x at *
      by_cases hin : 0 ≤ x ∧ x < n
      · obtain ⟨h0, hxn⟩ := hin
        obtain ⟨y, rfl⟩ := Int.eq_ofNat_of_zero_le h0
        have hyn : y < n := by omega
        have C1 := Lib.hid (find_c b y wr l3 c (by rw [Hl3.out]; exact hyn) hb3 hr3)
        rw [Hl3.out] at C1
        go_wp2_with fail
        refine C1.out.mono ?_
        rintro e w4 ⟨rfl, l4, hl4, hr4, hb4, hu4⟩
        have Hl4 := Lib.hid hl4
        have ho4 := ho3.upd hu4 (fun j hj e => by have := HA3.out j hj; omega)
        have hu5 := hu3.trans hu4 (fun _ _ h => h)
        clear hl4 hb3 hr3 C1 ho3
        go_wp2_with fail
        refine (appendU_c _ _ _ _ _ _ ho4 (by omega)).mono ?_
        rintro e w5 ⟨A5, c5, rfl, ho5, hu6, hat5⟩
        have ho6 : Own w5 5 1 A5 (16 + 8 * (k + 1)) c5 (cell8 (keyNs op imm (kidCs c (kids.take (k + 1))))) := by
          rw [HKC.out, keyNs_snoc, ← cell8_append, ← cell8_byts]
          exact ho5
        have HA5 : Hid (∀ j, At A5 j → w.heap.size ≤ j) := by
          intro j hj
          rcases hat5 j hj with h | h
          · exact HA3.out j h
          · have := hu5.size; omega
        have hb5 := hb4.upd hu6 (fun h => by have := HA3.out _ h; omega)
        have hu7 := hu5.trans hu6 (fun i hi h => by have := HA3.out _ h; omega)
        clear ho4 ho5 hat5 hb4
        go_wp2
        go_roundw
        case rel => exact ⟨k + 1, A5, c5, l4, by omega, by go_num, rfl, ho6, by show _ = _; rw [HOK1.out]; simp; omega, Hl4, hr4, hb5, hu7, HA5⟩
        case measure => simp [intOf]; omega
      · have hf := HBAD.out hin
        have HF := Lib.hid hf
        clear hf
        by_cases h0 : x < 0
        all_goals
          go_wp2
          go_ret2
          exact ⟨by unfold KeyRet; rw [HF.out]; rfl, l3, Hl3.out, hr3, hb3, hu3⟩
    · obtain rfl : k = kids.length := by omega
      have hs := run_str (c := c3) Try.underlying62 Try.underlying5 Try.underlying9 ho3.sl (n := 16 + 8 * kids.length) (by rw [len_keyNs]; simp [kidCs])
      go_wp2
      go_ret2
      have h1 := Hok.out
      rw [List.take_length] at h1
      refine ⟨?_, l3, Hl3.out, hr3, hb3, hu3⟩
      unfold KeyRet
      rw [h1]
      simp
end Go.Proofs.Ytlehiklgbladoaa
