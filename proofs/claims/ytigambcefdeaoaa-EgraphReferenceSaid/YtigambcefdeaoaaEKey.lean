/-
  What egraph.appendUint64, egraph.key and egraph.nodeKey do: they write an operation, the immediate operand and operands as bytes.
-/
import Derived.Test.YtigambcefdeaoaaPass
import Derived.Test.YtigambcefdeaoaaViews
namespace Go.Proofs.Ytigambcefdeaoaa
open Go.RowKit

set_option maxHeartbeats 400000 in
theorem gAppendU_c (A : Option Addr) (n c : Nat) (bs : List Value) (x : Int) (w : World) (h : Own w 5 1 A n c bs) (hn : n + 8 ≤ 140737488355328) :
    Calls Try.prog 72 #[.slice A n c, .int .u64 x] w fun e w' => ∃ A' c', e = .returned (.slice A' (n + 8) c') ∧ Own w' 5 1 A' (n + 8) c' (bs ++ bytesTo x 8) ∧ Upd (At A) w w' ∧ ∀ k, At A' k → At A k ∨ w.heap.size ≤ k := by
  go_enter Try.func72, Try.ntmps72
  go_wp2
  go_loopw [0, 5] (fun v i wr => ∃ (k : Nat) (A' : Option Addr) (c' : Nat), k ≤ 8 ∧ i = .int .i64 k ∧ v = .slice A' (n + k) c' ∧ Own wr 5 1 A' (n + k) c' (bs ++ bytesTo x k) ∧ Upd (At A) w wr ∧ ∀ j, At A' j → At A j ∨ w.heap.size ≤ j) (fun _ i _ => 8 - (intOf i).toNat)
  case atStart => exact ⟨0, A, c, by omega, rfl, rfl, by simpa [bytesTo] using h, Upd.refl, fun j hj => .inl hj⟩
  case round =>
    obtain ⟨k, A1, c1, hk, rfl, rfl, ho, hu, hat⟩ := hrel
    have Hat := Lib.hid hat
    clear hat
    by_cases hlt : k < 8
    · go_wp2_with (at_builtin; refine wpList_app rfl rfl T_bytes rfl (ho.alloc _) rfl (Sl.new _ _ _) rfl (by simp [Value.oneCell']) (by simp only [maxLen]; omega) (by omega) ?_; intro A2 c2 w2 ho2 hu2 hat2)
      have hsn : bytesTo x (k + 1) = bytesTo x k ++ [Value.int IntKind.u8 (x / 2 ^ (8 * k) % 256)] := by simp [bytesTo, List.range_succ, byteAt]
      refine ⟨⟨k + 1, A2, c2, by omega, by go_num, rfl, ?_, (hu.alloc _).trans hu2 (fun i hi hA => ?_), fun j hj => ?_⟩, by simp [intOf]; omega⟩
      · rw [hsn, ← List.append_assoc]; exact ho2
      · rcases Hat.out i hA with h | h
        · exact h
        · omega
      · rcases hat2 j hj with h | h
        · exact Hat.out j h
        · right; have := hu.size; simp at h; omega
    · obtain rfl : k = 8 := by omega
      go_wp2
      go_ret
      exact ⟨A1, c1, rfl, ho, hu, Hat.out⟩

/-- The bytes of a key: one of the operation, eight of the immediate operand and of each operand. -/
def keyEs (op imm : Int) (ks : List Int) : List Int := [op % 256] ++ byts (IntKind.u64.wrap imm) ++ ks.flatMap fun x => byts (IntKind.u64.wrap x)
def keyE (op imm : Int) (ks : List Int) : ByteArray := bstr (keyEs op imm ks)
theorem keyEs_snoc (op imm : Int) (ks : List Int) (x : Int) : keyEs op imm (ks ++ [x]) = keyEs op imm ks ++ byts (IntKind.u64.wrap x) := by simp [keyEs]
theorem len_keyEs (op imm : Int) (ks : List Int) : (keyEs op imm ks).length = 9 + 8 * ks.length := by
  simp only [keyEs, byts, List.length_append, List.length_map, List.length_range, List.length_flatMap, List.length_cons, List.length_nil]
  have : ∀ l : List Int, (l.map fun _ => 8).sum = 8 * l.length := by
    intro l; induction l with
    | nil => rfl
    | cons a l ih => simp [ih]; omega
  rw [this]
theorem flat8I_inj : ∀ (a b : List Int), (∀ x ∈ a, I64 x) → (∀ x ∈ b, I64 x) → (a.flatMap fun x => byts (IntKind.u64.wrap x)) = (b.flatMap fun x => byts (IntKind.u64.wrap x)) → a = b
  | [], [], _, _, _ => rfl
  | [], y :: b, _, _, h => by
    have := congrArg List.length h
    simp [byts_len] at this
    omega
  | x :: a, [], _, _, h => by
    have := congrArg List.length h
    simp [byts_len] at this
  | x :: a, y :: b, ha, hb, h => by
    simp only [List.flatMap_cons] at h
    obtain ⟨h1, h2⟩ := List.append_inj h (by simp [byts_len])
    rw [key8_inj (ha x (by simp)) (hb y (by simp)) h1, flat8I_inj a b (fun z hz => ha z (by simp [hz])) (fun z hz => hb z (by simp [hz])) h2]
theorem keyE_inj {o i o' i' : Int} {a b : List Int} (ho : 0 ≤ o ∧ o < 256) (hi : I64 i) (ho' : 0 ≤ o' ∧ o' < 256) (hi' : I64 i') (ha : ∀ x ∈ a, I64 x) (hb : ∀ x ∈ b, I64 x) (h : keyE o i a = keyE o' i' b) : o = o' ∧ i = i' ∧ a = b := by
  have hr : ∀ (o i : Int) (a : List Int), ∀ x ∈ keyEs o i a, 0 ≤ x ∧ x < 256 := by
    intro o i a x hx
    simp only [keyEs, List.mem_append, List.mem_flatMap, List.mem_singleton] at hx
    rcases hx with (rfl | hx) | ⟨y, _, hx⟩
    · omega
    · exact byts_range hx
    · exact byts_range hx
  have h1 := bstr_inj (hr _ _ _) (hr _ _ _) h
  unfold keyEs at h1
  obtain ⟨h2, h3⟩ := List.append_inj h1 (by simp [byts_len])
  obtain ⟨h4, h5⟩ := List.append_inj h2 (by simp)
  simp at h4
  exact ⟨by omega, key8_inj hi hi' h5, flat8I_inj a b ha hb h3⟩

set_option maxHeartbeats 1000000 in
theorem gKey_c (w : World) (op imm : Int) (XA KA : Option Addr) (xl xc kc : Nat) (ks : List Int) (F : Nat → Prop) (hk : Ints w F KA ks) (hn : ks.length ≤ 100000000000) :
    Calls Try.prog 66 #[.agg #[.int .i64 op, .int .i64 imm, .slice XA xl xc], .slice KA ks.length kc] w fun e w' => e = .returned (.string (keyE op imm ks)) ∧ Upd Non w w' := by
  have hk0 := hk.mono (G := (· < w.heap.size)) (fun k hk _ => hk)
  clear hk
  go_enter Try.func66, Try.ntmps66
  go_wp2_with fail
  have ho0 : Own ((w.alloc (.cells #[.int .i64 op, .int .i64 imm, .slice XA xl xc] 24)).alloc (.cells #[.int .u8 (op % 256)] 5)) 5 1 (some ⟨w.heap.size + 1, 0, none⟩) 1 1 (cell8 [op % 256]) :=
    Own.mk_ (Blk.new' (by simp)) (Nat.le_refl _) (by simp only [maxLen]; omega) rfl rfl
  refine (gAppendU_c _ 1 1 _ _ _ ho0 (by omega)).mono ?_
  rintro e w1 ⟨A1, c1, rfl, ho1, hu1, hat1⟩
  have U1 : Upd Non w w1 := ((Upd.refl.alloc _).alloc _).trans hu1 (fun i hi h => by rw [At.some_] at h; omega)
  have HA : Hid (∀ j, At A1 j → w.heap.size ≤ j) := fun j hj => by
    rcases hat1 j hj with h | h
    · rw [At.some_] at h; omega
    · simp at h; omega
  have ho2 : Own w1 5 1 A1 (9 + 8 * 0) c1 (cell8 (keyEs op imm (ks.take 0))) := by
    have := ho1
    simp only [cell8_byts, cell8_append] at this
    simpa [keyEs] using this
  clear ho0 ho1 hu1 hat1
  go_wp2_with fail
  go_loopg [5, 7, 18] ks.length (fun g v _ i wr => ∃ (k c' : Nat) (A' : Option Addr), Hid (g = ks.length - k) ∧ k ≤ ks.length ∧ i = .int .i64 k ∧ v = .slice A' (9 + 8 * k) c' ∧ Own wr 5 1 A' (9 + 8 * k) c' (cell8 (keyEs op imm (ks.take k))) ∧ Upd Non w wr ∧ Hid (∀ j, At A' j → w.heap.size ≤ j))
  case atStart => exact ⟨0, c1, A1, rfl, by omega, rfl, rfl, ho2, U1, HA⟩
  case round =>
    clear ho2 HA U1
    obtain ⟨k, c3, A3, Hg, hk3, rfl, rfl, ho3, hu3, HA3⟩ := hrel
    by_cases hlt : k < ks.length
    · obtain ⟨kb, koff, rfl, _, hkb, hck⟩ := (hk0.upd hu3 (fun _ _ _ f => f)).at_ hlt
      have HT : Hid (keyEs op imm (ks.take (k + 1)) = keyEs op imm (ks.take k) ++ byts (IntKind.u64.wrap ks[k])) := by
        show _ = _
        rw [List.take_succ_eq_append_getElem hlt, keyEs_snoc]
      generalize ks[k] = x at *
      go_wp2_with fail
      refine (gAppendU_c _ _ _ _ _ _ ho3 (by omega)).mono ?_
      rintro e w5 ⟨A5, c5, rfl, ho5, hu6, hat5⟩
      have ho6 : Own w5 5 1 A5 (9 + 8 * (k + 1)) c5 (cell8 (keyEs op imm (ks.take (k + 1)))) := by
        rw [HT.out, ← cell8_append, ← cell8_byts]
        exact ho5
      have HA5 : Hid (∀ j, At A5 j → w.heap.size ≤ j) := by
        intro j hj
        rcases hat5 j hj with h | h
        · exact HA3.out j h
        · have := hu3.size; omega
      have hu7 := hu3.trans hu6 (fun i hi h => by have := HA3.out _ h; omega)
      clear ho5 hat5
      go_wp2_with fail
      go_roundg (ks.length - (k + 1))
      case measure => rw [Hg.out]; omega
      case rel => exact ⟨k + 1, c5, A5, rfl, by omega, by go_num, rfl, ho6, hu7, HA5⟩
    · obtain rfl : ks.length = k := by omega
      rw [List.take_length] at ho3
      have hs := run_str (c := c3) Try.underlying104 Try.underlying5 Try.underlying9 ho3.sl (n := 9 + 8 * ks.length) (by rw [len_keyEs])
      go_wp2_with fail
      go_ret
      exact ⟨rfl, hu3⟩

set_option maxHeartbeats 1000000 in
theorem nodeKey_c (w : World) (op imm : Int) (KA : Option Addr) (kc : Nat) (ks : List Int) (F : Nat → Prop) (hk : Ints w F KA ks) (hn : ks.length ≤ 100000000000) :
    Calls Try.prog 35 #[.agg #[.int .i64 op, .int .i64 imm, .slice KA ks.length kc]] w fun e w' => e = .returned (.string (keyE op imm ks)) ∧ Upd Non w w' := by
  have C1 := Lib.hid (gKey_c (w.alloc (.cells #[.int .i64 op, .int .i64 imm, .slice KA ks.length kc] 24)) op imm KA KA ks.length kc kc ks F (hk.upd (Upd.refl.alloc _ (S := Non)) (fun _ _ _ f => f)) hn)
  go_enter Try.func35, Try.ntmps35
  go_wp2_with fail
  refine C1.out.mono ?_
  rintro e w1 ⟨rfl, hu⟩
  go_wp2_with fail
  go_ret
  exact ⟨rfl, (Upd.refl.alloc _).then_non hu⟩
end Go.Proofs.Ytigambcefdeaoaa
