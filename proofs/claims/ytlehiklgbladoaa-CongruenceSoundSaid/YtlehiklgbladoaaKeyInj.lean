/-
  Equal keys, equal nodes: plain Lean on the bytes of a key.
-/
import Derived.Test.YtlehiklgbladoaaKey
import Derived.Test.YtlehiklgbladoaaRef7
namespace Go.Proofs.Ytlehiklgbladoaa

theorem byts_inj {x y : Int} (hx : 0 ≤ x ∧ x < 18446744073709551616) (hy : 0 ≤ y ∧ y < 18446744073709551616) (h : byts x = byts y) : x = y := by
  have hj : ∀ j, j < 8 → byteAt x j = byteAt y j := by
    intro j hj
    have := List.getElem_of_eq h (i := j) (by simpa [byts] using hj)
    simpa [byts] using this
  have h0 := hj 0 (by omega)
  have h1 := hj 1 (by omega)
  have h2 := hj 2 (by omega)
  have h3 := hj 3 (by omega)
  have h4 := hj 4 (by omega)
  have h5 := hj 5 (by omega)
  have h6 := hj 6 (by omega)
  have h7 := hj 7 (by omega)
  simp only [byteAt, Nat.reduceMul, Int.reducePow] at h0 h1 h2 h3 h4 h5 h6 h7
  omega
theorem byts_len (x : Int) : (byts x).length = 8 := by simp [byts]
theorem wrapU_range (x : Int) : 0 ≤ IntKind.u64.wrap x ∧ IntKind.u64.wrap x < 18446744073709551616 := by
  rw [IntKind.wrap_u64]; omega
theorem wrapU_inj {x y : Int} (hx : I64 x) (hy : I64 y) (h : IntKind.u64.wrap x = IntKind.u64.wrap y) : x = y := by
  rw [IntKind.wrap_u64, IntKind.wrap_u64] at h
  unfold I64 at hx hy
  omega
theorem key8_inj {x y : Int} (hx : I64 x) (hy : I64 y) (h : byts (IntKind.u64.wrap x) = byts (IntKind.u64.wrap y)) : x = y :=
  wrapU_inj hx hy (byts_inj (wrapU_range x) (wrapU_range y) h)

theorem flat8_inj : ∀ (a b : List Nat), (∀ x ∈ a, I64 (x : Int)) → (∀ x ∈ b, I64 (x : Int)) → (a.flatMap fun (x : Nat) => byts (IntKind.u64.wrap (x : Int))) = (b.flatMap fun (x : Nat) => byts (IntKind.u64.wrap (x : Int))) → a = b
  | [], [], _, _, _ => rfl
  | [], y :: b, _, _, h => by
    have := congrArg List.length h
    simp [byts_len] at this
    omega
  | x :: a, [], _, _, h => by
    have := congrArg List.length h
    simp [byts_len] at this
  | x :: a, y :: b, ha, hb, h => by
    simp only [List.flatMap_cons] at h
    obtain ⟨h1, h2⟩ := List.append_inj h (by simp [byts_len])
    have e := key8_inj (ha x (by simp)) (hb y (by simp)) h1
    rw [flat8_inj a b (fun z hz => ha z (by simp [hz])) (fun z hz => hb z (by simp [hz])) h2]
    congr 1
    omega

theorem keyNs_inj {o i o' i' : Int} {a b : List Nat} (ho : I64 o) (hi : I64 i) (ho' : I64 o') (hi' : I64 i') (ha : ∀ x ∈ a, I64 (x : Int)) (hb : ∀ x ∈ b, I64 (x : Int))
    (h : keyNs o i a = keyNs o' i' b) : o = o' ∧ i = i' ∧ a = b := by
  unfold keyNs at h
  obtain ⟨h1, h2⟩ := List.append_inj h (by simp [byts_len])
  obtain ⟨h3, h4⟩ := List.append_inj h1 (by simp [byts_len])
  exact ⟨key8_inj ho ho' h3, key8_inj hi hi' h4, flat8_inj a b ha hb h2⟩

theorem byteAt_range (x : Int) (k : Nat) : 0 ≤ byteAt x k ∧ byteAt x k < 256 := by unfold byteAt; omega
theorem byts_range {x n : Int} (h : n ∈ byts x) : 0 ≤ n ∧ n < 256 := by
  simp only [byts, List.mem_map] at h
  obtain ⟨k, _, rfl⟩ := h
  exact byteAt_range x k
theorem keyNs_range {o i : Int} {a : List Nat} {n : Int} (h : n ∈ keyNs o i a) : 0 ≤ n ∧ n < 256 := by
  simp only [keyNs, List.mem_append, List.mem_flatMap] at h
  rcases h with (h | h) | ⟨x, _, h⟩ <;> exact byts_range h
theorem bstr_inj : ∀ {a b : List Int}, (∀ x ∈ a, 0 ≤ x ∧ x < 256) → (∀ x ∈ b, 0 ≤ x ∧ x < 256) → bstr a = bstr b → a = b := by
  intro a b ha hb h
  have h1 : (a.map fun n => UInt8.ofNat n.toNat) = b.map fun n => UInt8.ofNat n.toNat := by
    have := congrArg ByteArray.data h
    simpa [bstr] using this
  have hl : a.length = b.length := by simpa using congrArg List.length h1
  apply List.ext_getElem hl
  intro i hi hi'
  have e := List.getElem_of_eq h1 (i := i) (by simpa using hi)
  simp only [List.getElem_map] at e
  have e2 := congrArg UInt8.toNat e
  have r1 := ha _ (List.getElem_mem hi)
  have r2 := hb _ (List.getElem_mem hi')
  simp at e2
  omega
/-- The key of a node for classes c. -/
def keyS (c : Nat → Nat) (nd : Nd) : ByteArray := bstr (keyNs nd.op nd.imm (kidCs c nd.kids))
theorem keyS_eq {nd nd' : Nd} {a b : List Nat} (ho : I64 nd.op) (hi : I64 nd.imm) (ho' : I64 nd'.op) (hi' : I64 nd'.imm) (ha : ∀ x ∈ a, I64 (x : Int)) (hb : ∀ x ∈ b, I64 (x : Int))
    (h : bstr (keyNs nd.op nd.imm a) = bstr (keyNs nd'.op nd'.imm b)) : nd.op = nd'.op ∧ nd.imm = nd'.imm ∧ a = b :=
  keyNs_inj ho hi ho' hi' ha hb (bstr_inj (fun _ => keyNs_range) (fun _ => keyNs_range) h)

end Go.Proofs.Ytlehiklgbladoaa
