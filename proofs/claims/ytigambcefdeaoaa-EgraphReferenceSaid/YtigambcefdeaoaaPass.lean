/-
  What congruence.appendUint64 does: it appends the eight bytes of a word to a slice that the caller owns.
  What the union-find of package congruence does: find, union.
  What (unionFind).key does: it writes the operation, the immediate operand and the classes of the operands as bytes.
  Equal keys, equal nodes: plain Lean on the bytes of a key.
  One pass over the nodes with a map from keys to nodes: plain Lean.
-/
import Derived.Test.YtigambcefdeaoaaProg
import Derived.Test.YtigambcefdeaoaaBase
import Derived.Test.YtigambcefdeaoaaCong
namespace Go.Proofs.Ytigambcefdeaoaa
open Go.RowKit

theorem T_bytes : SlT Try.prog 104 5 1 1 := by
  obtain ⟨i, h1, h2, h3, h4⟩ := info_parts (show (Try.prog.info? 5).map (fun i => (i.zero, i.size, i.bytes)) = some (some (.int .u8 0), 1, 1) from by kernel_rfl)
  exact ⟨Try.underlying104, ⟨i, _, h1, h2, h3, h4, rfl⟩, by omega⟩

/-- Byte number k of a word. -/
def byteAt (x : Int) (k : Nat) : Int := x / 2 ^ (8 * k) % 256
def bytesTo (x : Int) (k : Nat) : List Value := (List.range k).map fun j => Value.int .u8 (byteAt x j)

set_option maxHeartbeats 400000 in
theorem appendU_c (A : Option Addr) (n c : Nat) (bs : List Value) (x : Int) (w : World) (h : Own w 5 1 A n c bs) (hn : n + 8 ≤ 140737488355328) :
    Calls Try.prog 70 #[.slice A n c, .int .u64 x] w fun e w' => ∃ A' c', e = .returned (.slice A' (n + 8) c') ∧ Own w' 5 1 A' (n + 8) c' (bs ++ bytesTo x 8) ∧ Upd (At A) w w' ∧ ∀ k, At A' k → At A k ∨ w.heap.size ≤ k := by
  go_enter Try.func70, Try.ntmps70
  go_wp2
  go_loopw [0, 5] (fun v i wr => ∃ (k : Nat) (A' : Option Addr) (c' : Nat), k ≤ 8 ∧ i = .int .i64 k ∧ v = .slice A' (n + k) c' ∧ Own wr 5 1 A' (n + k) c' (bs ++ bytesTo x k) ∧ Upd (At A) w wr ∧ ∀ j, At A' j → At A j ∨ w.heap.size ≤ j) (fun _ i _ => 8 - (intOf i).toNat)
  case atStart => exact ⟨0, A, c, by omega, rfl, rfl, by simpa [bytesTo] using h, Upd.refl, fun j hj => .inl hj⟩
  case round =>
    obtain ⟨k, A1, c1, hk, rfl, rfl, ho, hu, hat⟩ := hrel
    have Hat := Lib.hid hat
    clear hat
    by_cases hlt : k < 8
    · go_wp2_with (at_builtin; refine wpList_app rfl rfl T_bytes rfl (ho.alloc _) rfl (Sl.new _ _ _) rfl (by simp [Value.oneCell']) (by simp only [maxLen]; omega) (by omega) ?_; intro A2 c2 w2 ho2 hu2 hat2)
      have hsn : bytesTo x (k + 1) = bytesTo x k ++ [Value.int IntKind.u8 (x / 2 ^ (8 * k) % 256)] := by simp [bytesTo, List.range_succ, byteAt]
      refine ⟨⟨k + 1, A2, c2, by omega, by go_num, rfl, ?_, (hu.alloc _).trans hu2 (fun i hi hA => ?_), fun j hj => ?_⟩, by simp [intOf]; omega⟩
      · rw [hsn, ← List.append_assoc]; exact ho2
      · rcases Hat.out i hA with h | h
        · exact h
        · omega
      · rcases hat2 j hj with h | h
        · exact Hat.out j h
        · right; have := hu.size; simp at h; omega
    · obtain rfl : k = 8 := by omega
      go_wp2
      go_ret
      exact ⟨A1, c1, rfl, ho, hu, Hat.out⟩
end Go.Proofs.Ytigambcefdeaoaa

namespace Go.Proofs.Ytigambcefdeaoaa
open Go.RowKit

def ints (l : List Nat) : Array Value := (l.map fun (x : Nat) => Value.int .i64 (x : Int)).toArray
theorem ints_at {l : List Nat} {k : Nat} (h : k < l.length) : (ints l)[k]? = some (.int .i64 (l[k] : Int)) := by simp [ints, h]
theorem ints_set {l : List Nat} {k x : Nat} : (ints l).setIfInBounds k (.int .i64 (x : Int)) = ints (l.set k x) := by simp [ints, List.map_set]

/-- The parents l describe the classes c: c k is the smallest node of k's class. -/
structure Rep (l : List Nat) (c : Nat → Nat) : Prop where
  le : ∀ k (h : k < l.length), l[k] ≤ k
  step : ∀ k (h : k < l.length), c l[k] = c k
  root : ∀ k (h : k < l.length), l[k] = k → c k = k
  cle : ∀ k, k < l.length → c k ≤ k
  idem : ∀ k, k < l.length → c (c k) = c k
theorem Rep.halve {l : List Nat} {c : Nat → Nat} (r : Rep l c) (k : Nat) (h : k < l.length) (hne : l[k] ≠ k) :
    Rep (l.set k (l[l[k]]'(by have := r.le k h; omega))) c := by
  have h1 := r.le k h
  have h2 : l[k] < l.length := by omega
  have h3 := r.le l[k] h2
  refine ⟨fun j hj => ?_, fun j hj => ?_, fun j hj => ?_, fun j hj => r.cle j (by simpa using hj), fun j hj => r.idem j (by simpa using hj)⟩ <;> rw [List.getElem_set] <;> split
  · omega
  · exact r.le j (by simpa using hj)
  · rename_i e; subst e; rw [r.step _ h2, r.step _ h]
  · exact r.step j (by simpa using hj)
  · rename_i e; subst e; intro e2; omega
  · exact r.root j (by simpa using hj)
theorem Rep.named {l : List Nat} {c : Nat → Nat} (r : Rep l c) : Named l.length c := ⟨r.cle, r.idem⟩
theorem Rep.join {l : List Nat} {c : Nat → Nat} (r : Rep l c) (a b : Nat) (ha : a < l.length) (hb : b < l.length) (hne : c a ≠ c b) :
    Rep (l.set (max (c a) (c b)) (min (c a) (c b))) (joinc c a b) := by
  have ca := r.cle a ha
  have cb := r.cle b hb
  have ia := r.idem a ha
  have ib := r.idem b hb
  have hmin : c (min (c a) (c b)) = min (c a) (c b) := by
    rcases Nat.le_total (c a) (c b) with h | h
    · rw [Nat.min_eq_left h, ia]
    · rw [Nat.min_eq_right h, ib]
  have hmax : c (max (c a) (c b)) = max (c a) (c b) := by
    rcases Nat.le_total (c a) (c b) with h | h
    · rw [Nat.max_eq_right h, ib]
    · rw [Nat.max_eq_left h, ia]
  have hlt : min (c a) (c b) < max (c a) (c b) := by omega
  have jle : ∀ k, k < l.length → joinc c a b k ≤ k := by
    intro k hk
    have := r.cle k hk
    unfold joinc; split <;> omega
  have jid : ∀ k, k < l.length → joinc c a b (joinc c a b k) = joinc c a b k := by
    intro k hk
    unfold joinc
    by_cases h : c k = max (c a) (c b)
    · simp only [h, if_true]; rw [hmin, if_neg (by omega)]
    · simp only [h, if_false]; rw [r.idem k hk, if_neg h]
  refine ⟨fun j hj => ?_, fun j hj => ?_, fun j hj => ?_, fun j hj => jle j (by simpa using hj), fun j hj => jid j (by simpa using hj)⟩ <;> rw [List.getElem_set] <;> split
  · omega
  · exact r.le j (by simpa using hj)
  · rename_i e; subst e
    unfold joinc; rw [hmin, hmax, if_neg (by omega), if_pos rfl]
  · have := r.step j (by simpa using hj)
    unfold joinc; rw [this]
  · rename_i e; subst e; intro e2; omega
  · rename_i e
    intro e2
    have := r.root j (by simpa using hj) e2
    unfold joinc; rw [this, if_neg (by omega)]

set_option maxHeartbeats 400000 in
theorem find_c (b i : Nat) (w : World) (l : List Nat) (c : Nat → Nat) (hi : i < l.length)
   (hb : Blk w b 3 (ints l)) (hr : Rep l c) :
    Calls Try.prog 64 #[.slice (some ⟨b, 0, none⟩) l.length l.length, .int .i64 i] w fun e w' => e = .returned (.int .i64 (c i : Nat)) ∧ ∃ l', l'.length = l.length ∧ Rep l' c ∧ Blk w' b 3 (ints l') ∧ Upd (· = b) w w' := by
  obtain ⟨n, Hn⟩ : ∃ n, Hid (l.length = n) := ⟨_, rfl⟩
  rw [Hn.out] at hi ⊢
  go_enter Try.func64, Try.ntmps64
  go_wp2
  go_loopw [1] (fun i' wr => ∃ (k : Nat) (l' : List Nat), i' = .int .i64 k ∧ k < n ∧ Hid (c k = c i) ∧ Hid (l'.length = n) ∧ Rep l' c ∧ Blk wr b 3 (ints l') ∧ Upd (· = b) w wr) (fun i _ => (intOf i).toNat)
  case atStart => exact ⟨i, l, rfl, hi, rfl, Hn, hr, hb, Upd.refl⟩
  case round =>
    obtain ⟨k, l', rfl, hk, Hc, Hl, r', hb', hu⟩ := hrel
    have hk' : k < l'.length := by rw [Hl.out]; exact hk
    have h1 := r'.le k hk'
    have h2 : l'[k] < l'.length := by omega
    have c1 := hb'.cell k
    rw [ints_at hk'] at c1
    have c2 := hb'.cell l'[k]
    rw [ints_at h2] at c2
    have c3 := hb'.frozen k
    by_cases he : l'[k] = k
    · have e1 := r'.root k hk' he
      rw [he] at c1
      clear h1 h2 c2
      have He := Lib.hid he
      have E1 := Lib.hid e1
      clear he e1
      go_wp2
      go_ret
      exact ⟨by show Ending.returned (.int .i64 (k : Int)) = _; rw [← Hc.out, E1.out], l', Hl.out, r', hb', hu⟩
    · have r2 := r'.halve k hk' he
      have hlt : l'[k] < k := by omega
      have h3 := r'.le _ h2
      have hst := r'.step _ hk'
      have hst2 := r'.step _ h2
      have hs2 := (hb'.set_ k (.int .i64 ((l'[l'[k]] : Nat) : Int)))
      rw [ints_set] at hs2
      have hu2 := hu.setCell (p := ⟨b, k, none⟩) (.inl rfl) (.int .i64 ((l'[l'[k]] : Nat) : Int))
      have hl2 : (l'.set k l'[l'[k]]).length = n := by rw [List.length_set]; exact Hl.out
      generalize (l'.set k l'[l'[k]]) = l2 at *
      generalize l'[l'[k]] = y at *
      generalize l'[k] = x at *
      have Hc2 : Hid (c y = c i) := by show _ = _; rw [hst2, hst, Hc.out]
      have Hl2 := Lib.hid hl2
      have hxn : x < n := by omega
      have hne : ((x : Int) != k) = true := by simp; omega
      clear hst hst2 h2 hl2 he hk'
      go_wp2
      go_roundw
      case rel => exact ⟨y, l2, rfl, by omega, Hc2, Hl2, r2, hs2, hu2⟩
      case measure => simp [intOf]; omega

set_option maxHeartbeats 400000 in
theorem union_c (b i j : Nat) (w : World) (l : List Nat) (c : Nat → Nat) (hi : i < l.length) (hj : j < l.length)
   (hb : Blk w b 3 (ints l)) (hr : Rep l c) :
    Calls Try.prog 62 #[.slice (some ⟨b, 0, none⟩) l.length l.length, .int .i64 i, .int .i64 j] w fun e w' =>
      e = .returned (.bool (decide (c i ≠ c j))) ∧ ∃ l', l'.length = l.length ∧ Rep l' (joinc c i j) ∧ Blk w' b 3 (ints l') ∧ Upd (· = b) w w' := by
  obtain ⟨n, Hn⟩ : ∃ n, Hid (l.length = n) := ⟨_, rfl⟩
  have C1 := Lib.hid (find_c b i w l c hi hb hr)
  rw [Hn.out] at C1 hi hj ⊢
  clear hb hr
  go_enter Try.func62, Try.ntmps62
  go_wp2_with fail
  refine C1.out.mono ?_
  rintro e w1 ⟨rfl, l1, hl1, hr1, hb1, hu1⟩
  have C2 := Lib.hid (find_c b j w1 l1 c (by omega) hb1 hr1)
  rw [hl1] at C2
  clear hl1 hb1 hr1 C1
  go_wp2_with fail
  refine C2.out.mono ?_
  rintro e w2 ⟨rfl, l2, hl2, hr2, hb2, hu2⟩
  have hu := hu1.trans hu2 (fun _ _ h => h)
  have h1 := hr2.cle i (by omega)
  have h2 := hr2.cle j (by omega)
  have HL := Lib.hid hl2
  by_cases he : c i = c j
  · have HD := Lib.hid (show decide (c i ≠ c j) = false by simp [he])
    have hr3 := hr2
    rw [← joinc_same he] at hr3
    have hb0 : (((c i : Nat) : Int) == ((c j : Nat) : Int)) = true := by simp [he]
    clear he hl2 C2
    go_wp2
    go_ret
    refine ⟨by rw [HD.out]; rfl, l2, HL.out, hr3, hb2, hu⟩
  · have HD := Lib.hid (show decide (c i ≠ c j) = true by simp [he])
    have hr3 := hr2.join i j (by omega) (by omega) he
    have hb3 := hb2.set_ (max (c i) (c j)) (.int .i64 ((min (c i) (c j) : Nat) : Int))
    rw [ints_set] at hb3
    have hu3 := hu.setCell (p := ⟨b, max (c i) (c j), none⟩) (.inl rfl) (.int .i64 ((min (c i) (c j) : Nat) : Int))
    obtain ⟨y, c1⟩ : ∃ y : Nat, w2.cell? ⟨b, max (c i) (c j), none⟩ = some (.int .i64 y) := ⟨_, by rw [hb2.cell, ints_at (by omega)]⟩
    have c3 := hb2.frozen (max (c i) (c j))
    have HL2 := Lib.hid (show (l2.set (max (c i) (c j)) (min (c i) (c j))).length = n by simp [hl2])
    have hne : (((c i : Nat) : Int) == ((c j : Nat) : Int)) = false := by simp; omega
    have hm : max (c i) (c j) < n := by omega
    rcases Nat.lt_or_gt_of_ne he with hlt | hlt
    all_goals
      first
        | rw [Nat.max_eq_right (Nat.le_of_lt hlt), Nat.min_eq_left (Nat.le_of_lt hlt)] at hr3 hb3 hu3 HL2
          rw [Nat.max_eq_right (Nat.le_of_lt hlt)] at c1 c3 hm
        | rw [Nat.max_eq_left (Nat.le_of_lt hlt), Nat.min_eq_right (Nat.le_of_lt hlt)] at hr3 hb3 hu3 HL2
          rw [Nat.max_eq_left (Nat.le_of_lt hlt)] at c1 c3 hm
      clear hl2 C2 he
      go_wp2
      go_ret
      exact ⟨by rw [HD.out]; rfl, _, HL2.out, hr3, hb3, hu3⟩
end Go.Proofs.Ytigambcefdeaoaa

namespace Go.Proofs.Ytigambcefdeaoaa
open Go.RowKit

/-- The bytes of the key, as numbers. -/
def byts (x : Int) : List Int := (List.range 8).map fun j => byteAt x j
def keyNs (op imm : Int) (cs : List Nat) : List Int := byts (IntKind.u64.wrap op) ++ byts (IntKind.u64.wrap imm) ++ cs.flatMap fun (x : Nat) => byts (IntKind.u64.wrap (x : Int))
def KeyRet (n : Nat) (c : Nat → Nat) (op imm : Int) (kids : List Int) (e : Ending) : Prop :=
  e = .returned (.tuple #[.string (if okKids n kids then bstr (keyNs op imm (kidCs c kids)) else ⟨#[]⟩), .bool (okKids n kids)])
def cell8 (ns : List Int) : List Value := ns.map fun x => Value.int .u8 x
theorem cell8_byts (x : Int) : bytesTo x 8 = cell8 (byts x) := by simp [bytesTo, cell8, byts]
theorem cell8_append (a b : List Int) : cell8 a ++ cell8 b = cell8 (a ++ b) := by simp [cell8]
theorem len_keyNs (op imm : Int) (cs : List Nat) : (keyNs op imm cs).length = 16 + 8 * cs.length := by
  simp only [keyNs, byts, List.length_append, List.length_map, List.length_range, List.length_flatMap]
  have : ∀ l : List Nat, (l.map fun _ => 8).sum = 8 * l.length := by
    intro l; induction l with
    | nil => rfl
    | cons a l ih => simp [ih]; omega
  rw [this]
theorem keyNs_snoc (op imm : Int) (cs : List Nat) (x : Nat) : keyNs op imm (cs ++ [x]) = keyNs op imm cs ++ byts (IntKind.u64.wrap (x : Int)) := by
  simp [keyNs, List.append_assoc]
theorem kidCs_snoc (c : Nat → Nat) (kids : List Int) (k : Nat) (h : k < kids.length) : kidCs c (kids.take (k + 1)) = kidCs c (kids.take k) ++ [c kids[k].toNat] := by
  unfold kidCs; rw [List.take_succ_eq_append_getElem h, List.map_append]; rfl

set_option maxHeartbeats 1000000 in
theorem key_c (b : Nat) (w : World) (l : List Nat) (c : Nat → Nat) (hb : Blk w b 3 (ints l)) (hr : Rep l c) (op imm : Int) (kids : List Int) (KA : Option Addr) (kc : Nat) (F : Nat → Prop)
    (hF : ∀ k, F k → k ≠ b) (hk : Ints w F KA kids) (hn : 8 * kids.length + 16 ≤ 140737488355328) :
    Calls Try.prog 63 #[.slice (some ⟨b, 0, none⟩) l.length l.length, .agg #[.int .i64 op, .int .i64 imm, .slice KA kids.length kc]] w fun e w' =>
      KeyRet l.length c op imm kids e ∧ ∃ l', l'.length = l.length ∧ Rep l' c ∧ Blk w' b 3 (ints l') ∧ Upd (· = b) w w' := by
  obtain ⟨n, Hn⟩ : ∃ n, Hid (l.length = n) := ⟨_, rfl⟩
  rw [Hn.out]
  have hblt := hb.lt
  go_enter Try.func63, Try.ntmps63
  go_wp2_with fail
  refine (appendU_c _ _ _ [] _ _ Own.none_ (by omega)).mono ?_
  rintro e w1 ⟨A1, c1, rfl, ho1, hu1, hat1⟩
  have hx1 := (Blk.new w 24 #[Value.int IntKind.i64 op, Value.int IntKind.i64 imm, Value.slice KA kids.length kc]).upd hu1 At.none_
  have U1 : Upd Non w w1 := (Upd.refl.alloc _).trans hu1 (fun _ _ h => (At.none_ h).elim)
  have cx1 := hx1.cell 1
  go_wp2_with fail
  refine (appendU_c A1 8 c1 _ _ _ ho1 (by omega)).mono ?_
  rintro e w2 ⟨A2, c2, rfl, ho2, hu2, hat2⟩
  have hA1 : ∀ k, At A1 k → w.heap.size < k := fun k hk => by
    rcases hat1 k hk with h | h
    · exact (At.none_ h).elim
    · simp at h; omega
  have hx2 := hx1.upd hu2 (fun h => by have := hA1 _ h; omega)
  have U2 : Upd Non w w2 := U1.trans hu2 (fun i hi h => by have := hA1 _ h; omega)
  have hA2 : ∀ k, At A2 k → w.heap.size < k := fun k hk => by
    rcases hat2 k hk with h | h
    · exact hA1 k h
    · have := hx1.lt; omega
  have cx2 := hx2.cell 2
  clear cx1 hx1 hu1 hu2 hat1 hat2
  have ho2' : Own w2 5 1 A2 16 c2 (cell8 (keyNs op imm (kidCs c (kids.take 0)))) := by
    have := ho2
    simp only [List.nil_append, cell8_byts, cell8_append] at this
    simpa [keyNs, kidCs] using this
  clear ho1 ho2
  have HA : Hid (∀ j, At A2 j → w.heap.size ≤ j) := fun j hj => by have := hA2 j hj; omega
  clear hA2 hA1
  go_wp2_with fail
  go_loopw [6, 21] (fun v i wr => ∃ (k : Nat) (A' : Option Addr) (c' : Nat) (l' : List Nat), k ≤ kids.length ∧ i = .int .i64 k ∧ v = .slice A' (16 + 8 * k) c' ∧ Own wr 5 1 A' (16 + 8 * k) c' (cell8 (keyNs op imm (kidCs c (kids.take k)))) ∧
    Hid (okKids n (kids.take k) = true) ∧ Hid (l'.length = n) ∧ Rep l' c ∧ Blk wr b 3 (ints l') ∧ Upd (· = b) w wr ∧ Hid (∀ j, At A' j → w.heap.size ≤ j)) (fun _ i _ => kids.length - (intOf i).toNat)
  case atStart => exact ⟨0, A2, c2, l, by omega, rfl, rfl, ho2', by simp [okKids, Hid], Hn, hr, hb.upd U2 (fun f => f), U2.mono (fun _ _ f => f.elim), HA⟩
  case round =>
    obtain ⟨k, A3, c3, l3, hk3, rfl, rfl, ho3, Hok, Hl3, hr3, hb3, hu3, HA3⟩ := hrel
    have hk' := hk.upd hu3 (fun k _ hf => hF k hf)
    clear ho2' HA hx2 U1 U2 cx2
    by_cases hlt : k < kids.length
    · obtain ⟨kb, koff, rfl, hFk, _, hck⟩ := hk'.at_ hlt
      clear hk'
      have hok1 : okKids n (kids.take (k + 1)) = (okKids n (kids.take k) && (decide (0 ≤ kids[k]) && decide (kids[k] < n))) := by
        unfold okKids; rw [List.take_succ_eq_append_getElem hlt, List.all_append]; simp only [List.all_cons, List.all_nil, Bool.and_true]
      rw [Hok.out, Bool.true_and] at hok1
      have HOK1 := Lib.hid hok1
      clear hok1
      have HKC := Lib.hid (kidCs_snoc c kids k hlt)
      have HBAD : Hid (¬ (0 ≤ kids[k] ∧ kids[k] < n) → okKids n kids = false) := by
        intro hbad
        rw [okKids, List.all_eq_false]
        exact ⟨kids[k], List.getElem_mem hlt, by simpa using hbad⟩
      generalize kids[k] = x at *
      by_cases hin : 0 ≤ x ∧ x < n
      · obtain ⟨h0, hxn⟩ := hin
        obtain ⟨y, rfl⟩ := Int.eq_ofNat_of_zero_le h0
        have hyn : y < n := by omega
        have C1 := Lib.hid (find_c b y wr l3 c (by rw [Hl3.out]; exact hyn) hb3 hr3)
        rw [Hl3.out] at C1
        go_wp2_with fail
        refine C1.out.mono ?_
        rintro e w4 ⟨rfl, l4, hl4, hr4, hb4, hu4⟩
        have Hl4 := Lib.hid hl4
        have ho4 := ho3.upd hu4 (fun j hj e => by have := HA3.out j hj; omega)
        have hu5 := hu3.trans hu4 (fun _ _ h => h)
        clear hl4 hb3 hr3 C1 ho3
        go_wp2_with fail
        refine (appendU_c _ _ _ _ _ _ ho4 (by omega)).mono ?_
        rintro e w5 ⟨A5, c5, rfl, ho5, hu6, hat5⟩
        have ho6 : Own w5 5 1 A5 (16 + 8 * (k + 1)) c5 (cell8 (keyNs op imm (kidCs c (kids.take (k + 1))))) := by
          rw [HKC.out, keyNs_snoc, ← cell8_append, ← cell8_byts]
          exact ho5
        have HA5 : Hid (∀ j, At A5 j → w.heap.size ≤ j) := by
          intro j hj
          rcases hat5 j hj with h | h
          · exact HA3.out j h
          · have := hu5.size; omega
        have hb5 := hb4.upd hu6 (fun h => by have := HA3.out _ h; omega)
        have hu7 := hu5.trans hu6 (fun i hi h => by have := HA3.out _ h; omega)
        clear ho4 ho5 hat5 hb4
        go_wp2
        go_roundw
        case rel => exact ⟨k + 1, A5, c5, l4, by omega, by go_num, rfl, ho6, by show _ = _; rw [HOK1.out]; simp; omega, Hl4, hr4, hb5, hu7, HA5⟩
        case measure => simp [intOf]; omega
      · have hf := HBAD.out hin
        have HF := Lib.hid hf
        clear hf
        by_cases h0 : x < 0
        all_goals
          go_wp2
          go_ret2
          exact ⟨by unfold KeyRet; rw [HF.out]; rfl, l3, Hl3.out, hr3, hb3, hu3⟩
    · obtain rfl : k = kids.length := by omega
      have hs := run_str (c := c3) Try.underlying104 Try.underlying5 Try.underlying9 ho3.sl (n := 16 + 8 * kids.length) (by rw [len_keyNs]; simp [kidCs])
      go_wp2
      go_ret2
      have h1 := Hok.out
      rw [List.take_length] at h1
      refine ⟨?_, l3, Hl3.out, hr3, hb3, hu3⟩
      unfold KeyRet
      rw [h1]
      simp
end Go.Proofs.Ytigambcefdeaoaa

namespace Go.Proofs.Ytigambcefdeaoaa

theorem byts_inj {x y : Int} (hx : 0 ≤ x ∧ x < 18446744073709551616) (hy : 0 ≤ y ∧ y < 18446744073709551616) (h : byts x = byts y) : x = y := by
  have hj : ∀ j, j < 8 → byteAt x j = byteAt y j := by
    intro j hj
    have := List.getElem_of_eq h (i := j) (by simpa [byts] using hj)
    simpa [byts] using this
  have h0 := hj 0 (by omega)
  have h1 := hj 1 (by omega)
  have h2 := hj 2 (by omega)
  have h3 := hj 3 (by omega)
  have h4 := hj 4 (by omega)
  have h5 := hj 5 (by omega)
  have h6 := hj 6 (by omega)
  have h7 := hj 7 (by omega)
  simp only [byteAt, Nat.reduceMul, Int.reducePow] at h0 h1 h2 h3 h4 h5 h6 h7
  omega
theorem byts_len (x : Int) : (byts x).length = 8 := by simp [byts]
theorem wrapU_range (x : Int) : 0 ≤ IntKind.u64.wrap x ∧ IntKind.u64.wrap x < 18446744073709551616 := by
  rw [IntKind.wrap_u64]; omega
theorem wrapU_inj {x y : Int} (hx : I64 x) (hy : I64 y) (h : IntKind.u64.wrap x = IntKind.u64.wrap y) : x = y := by
  rw [IntKind.wrap_u64, IntKind.wrap_u64] at h
  unfold I64 at hx hy
  omega
theorem key8_inj {x y : Int} (hx : I64 x) (hy : I64 y) (h : byts (IntKind.u64.wrap x) = byts (IntKind.u64.wrap y)) : x = y :=
  wrapU_inj hx hy (byts_inj (wrapU_range x) (wrapU_range y) h)

theorem flat8_inj : ∀ (a b : List Nat), (∀ x ∈ a, I64 (x : Int)) → (∀ x ∈ b, I64 (x : Int)) → (a.flatMap fun (x : Nat) => byts (IntKind.u64.wrap (x : Int))) = (b.flatMap fun (x : Nat) => byts (IntKind.u64.wrap (x : Int))) → a = b
  | [], [], _, _, _ => rfl
  | [], y :: b, _, _, h => by
    have := congrArg List.length h
    simp [byts_len] at this
    omega
  | x :: a, [], _, _, h => by
    have := congrArg List.length h
    simp [byts_len] at this
  | x :: a, y :: b, ha, hb, h => by
    simp only [List.flatMap_cons] at h
    obtain ⟨h1, h2⟩ := List.append_inj h (by simp [byts_len])
    have e := key8_inj (ha x (by simp)) (hb y (by simp)) h1
    rw [flat8_inj a b (fun z hz => ha z (by simp [hz])) (fun z hz => hb z (by simp [hz])) h2]
    congr 1
    omega

theorem keyNs_inj {o i o' i' : Int} {a b : List Nat} (ho : I64 o) (hi : I64 i) (ho' : I64 o') (hi' : I64 i') (ha : ∀ x ∈ a, I64 (x : Int)) (hb : ∀ x ∈ b, I64 (x : Int))
    (h : keyNs o i a = keyNs o' i' b) : o = o' ∧ i = i' ∧ a = b := by
  unfold keyNs at h
  obtain ⟨h1, h2⟩ := List.append_inj h (by simp [byts_len])
  obtain ⟨h3, h4⟩ := List.append_inj h1 (by simp [byts_len])
  exact ⟨key8_inj ho ho' h3, key8_inj hi hi' h4, flat8_inj a b ha hb h2⟩

theorem byteAt_range (x : Int) (k : Nat) : 0 ≤ byteAt x k ∧ byteAt x k < 256 := by unfold byteAt; omega
theorem byts_range {x n : Int} (h : n ∈ byts x) : 0 ≤ n ∧ n < 256 := by
  simp only [byts, List.mem_map] at h
  obtain ⟨k, _, rfl⟩ := h
  exact byteAt_range x k
theorem keyNs_range {o i : Int} {a : List Nat} {n : Int} (h : n ∈ keyNs o i a) : 0 ≤ n ∧ n < 256 := by
  simp only [keyNs, List.mem_append, List.mem_flatMap] at h
  rcases h with (h | h) | ⟨x, _, h⟩ <;> exact byts_range h
theorem bstr_inj : ∀ {a b : List Int}, (∀ x ∈ a, 0 ≤ x ∧ x < 256) → (∀ x ∈ b, 0 ≤ x ∧ x < 256) → bstr a = bstr b → a = b := by
  intro a b ha hb h
  have h1 : (a.map fun n => UInt8.ofNat n.toNat) = b.map fun n => UInt8.ofNat n.toNat := by
    have := congrArg ByteArray.data h
    simpa [bstr] using this
  have hl : a.length = b.length := by simpa using congrArg List.length h1
  apply List.ext_getElem hl
  intro i hi hi'
  have e := List.getElem_of_eq h1 (i := i) (by simpa using hi)
  simp only [List.getElem_map] at e
  have e2 := congrArg UInt8.toNat e
  have r1 := ha _ (List.getElem_mem hi)
  have r2 := hb _ (List.getElem_mem hi')
  simp at e2
  omega
/-- The key of a node for classes c. -/
def keyS (c : Nat → Nat) (nd : Nd) : ByteArray := bstr (keyNs nd.op nd.imm (kidCs c nd.kids))
theorem keyS_eq {nd nd' : Nd} {a b : List Nat} (ho : I64 nd.op) (hi : I64 nd.imm) (ho' : I64 nd'.op) (hi' : I64 nd'.imm) (ha : ∀ x ∈ a, I64 (x : Int)) (hb : ∀ x ∈ b, I64 (x : Int))
    (h : bstr (keyNs nd.op nd.imm a) = bstr (keyNs nd'.op nd'.imm b)) : nd.op = nd'.op ∧ nd.imm = nd'.imm ∧ a = b :=
  keyNs_inj ho hi ho' hi' ha hb (bstr_inj (fun _ => keyNs_range) (fun _ => keyNs_range) h)

end Go.Proofs.Ytigambcefdeaoaa

namespace Go.Proofs.Ytigambcefdeaoaa

def NdOk (nd : Nd) : Prop := I64 nd.op ∧ I64 nd.imm ∧ 8 * nd.kids.length + 16 ≤ 140737488355328

def pairsIn (L : List Nd) (ps : List (Int × Int)) (c : Nat → Nat) : Prop := ∀ p ∈ ps, inR L.length p.1 → inR L.length p.2 → c p.1.toNat = c p.2.toNat

structure Pass (L : List Nd) (ps : List (Int × Int)) (c0 : Nat → Nat) (k : Nat) (on : Bool) (c : Nat → Nat) (m : ByteArray → Option Nat) : Prop where
  named : Named L.length c
  snd : Snd L ps c
  prs : pairsIn L ps c
  ent : ∀ s j, m s = some j → j < k ∧ ∃ (hj : j < L.length) (rs : List Nat), s = bstr (keyNs L[j].op L[j].imm rs) ∧ okKids L.length L[j].kids = true ∧ (∀ r ∈ rs, r < L.length) ∧ ∀ d, Resp L ps d → kidCs d L[j].kids = rs.map d
  off : on = false → c = c0 ∧ ∀ i (hi : i < L.length), i < k → okKids L.length L[i].kids = true → ∃ j, m (keyS c L[i]) = some j ∧ c i = c j
  on_ : on = true → roots L.length c < roots L.length c0

section
variable {L : List Nd} {ps : List (Int × Int)} {c0 c : Nat → Nat} {k : Nat} {on : Bool} {m : ByteArray → Option Nat}

theorem Pass.start (h1 : Named L.length c) (h2 : Snd L ps c) (h3 : pairsIn L ps c) : Pass L ps c 0 false c (fun _ => none) :=
  ⟨h1, h2, h3, by simp, fun _ => ⟨rfl, fun i _ h => by omega⟩, by simp⟩

theorem Pass.bad (h : Pass L ps c0 k on c m) (hk : k < L.length) (hb : okKids L.length L[k].kids = false) : Pass L ps c0 (k + 1) on c m := by
  refine ⟨h.named, h.snd, h.prs, fun s j hj => ⟨by have := (h.ent s j hj).1; omega, (h.ent s j hj).2⟩, fun ho => ⟨(h.off ho).1, fun i hi hik hok => ?_⟩, h.on_⟩
  by_cases e : i = k
  · subst e; rw [hb] at hok; cases hok
  · exact (h.off ho).2 i hi (by omega) hok

theorem kidCs_d {d : Nat → Nat} (hn : Named L.length c) (hs : Snd L ps c) (hr : Resp L ps d) {kids : List Int} (hok : okKids L.length kids = true) : kidCs d kids = (kidCs c kids).map d := by
  unfold kidCs
  rw [List.map_map]
  apply List.map_congr_left
  intro x hx
  simp only [okKids, List.all_eq_true, Bool.and_eq_true, decide_eq_true_eq] at hok
  have := hok x hx
  exact hs d hr _ _ (by omega) (hn.lt (by omega)) (hn.idem _ (by omega)).symm

theorem kidCs_lt (hn : Named L.length c) {kids : List Int} (hok : okKids L.length kids = true) : ∀ r ∈ kidCs c kids, r < L.length := by
  intro r hr
  unfold kidCs at hr
  obtain ⟨x, hx, rfl⟩ := List.mem_map.1 hr
  simp only [okKids, List.all_eq_true, Bool.and_eq_true, decide_eq_true_eq] at hok
  have := hok x hx
  exact hn.lt (by omega)

theorem Pass.fresh (h : Pass L ps c0 k on c m) (hk : k < L.length) (hok : okKids L.length L[k].kids = true) (hm : m (keyS c L[k]) = none) :
    Pass L ps c0 (k + 1) on c (fun s => if s = keyS c L[k] then some k else m s) := by
  refine ⟨h.named, h.snd, h.prs, fun s j hj => ?_, fun ho => ⟨(h.off ho).1, fun i hi hik hoki => ?_⟩, h.on_⟩
  · split at hj
    · rename_i e
      injection hj with hj
      subst hj
      exact ⟨by omega, hk, kidCs c L[k].kids, e, hok, kidCs_lt h.named hok, fun d hr => kidCs_d h.named h.snd hr hok⟩
    · exact ⟨by have := (h.ent s j hj).1; omega, (h.ent s j hj).2⟩
  · by_cases e : i = k
    · subst e; exact ⟨i, by simp, rfl⟩
    · obtain ⟨j, h1, h2⟩ := (h.off ho).2 i hi (by omega) hoki
      refine ⟨j, ?_, h2⟩
      rw [if_neg]
      · exact h1
      · intro e2; rw [e2, hm] at h1; cases h1

theorem Pass.same {j : Nat} (h : Pass L ps c0 k on c m) (hk : k < L.length) (hm : m (keyS c L[k]) = some j) (hc : c k = c j) :
    Pass L ps c0 (k + 1) on c m := by
  refine ⟨h.named, h.snd, h.prs, fun s j hj => ⟨by have := (h.ent s j hj).1; omega, (h.ent s j hj).2⟩, fun ho => ⟨(h.off ho).1, fun i hi hik hoki => ?_⟩, h.on_⟩
  by_cases e : i = k
  · subst e; exact ⟨j, hm, hc⟩
  · exact (h.off ho).2 i hi (by omega) hoki

theorem Pass.join {j : Nat} (hL : ∀ nd ∈ L, NdOk nd) (hlen : L.length ≤ 100000) (h : Pass L ps c0 k on c m) (hk : k < L.length) (hok : okKids L.length L[k].kids = true) (hm : m (keyS c L[k]) = some j) (hc : c k ≠ c j) :
    Pass L ps c0 (k + 1) true (joinc c k j) m := by
  obtain ⟨hjk, hj, rs, hs, hokj, hrs, hd⟩ := h.ent _ _ hm
  have ok1 := hL _ (List.getElem_mem hk)
  have ok2 := hL _ (List.getElem_mem hj)
  have small : ∀ x : Nat, x < L.length → I64 (x : Int) := fun x hx => by unfold I64; omega
  obtain ⟨e1, e2, e3⟩ := keyS_eq ok1.1 ok1.2.1 ok2.1 ok2.2.1 (fun x hx => small x (kidCs_lt h.named hok x hx)) (fun x hx => small x (hrs x hx)) hs
  have hdd : ∀ d, Resp L ps d → d k = d j := fun d hr => hr.cong k j hk hj ⟨e1, e2, hok, hokj, by rw [hd d hr, kidCs_d h.named h.snd hr hok, e3]⟩
  have hn := h.named.join hk hj
  have hroots := roots_join h.named hk hj hc
  refine ⟨hn, h.snd.join hk hj hdd, fun p hp i1 i2 => joinc_keeps (h.prs p hp i1 i2), fun s j hj => ⟨by have := (h.ent s j hj).1; omega, (h.ent s j hj).2⟩, by simp, fun _ => ?_⟩
  cases ho : on with
  | false => rw [(h.off ho).1] at hroots; rw [(h.off ho).1]; exact hroots
  | true => have := h.on_ ho; omega

/-- A pass that joined nothing shows that the classes are closed. -/
theorem Pass.closed (h : Pass L ps c0 L.length false c m) : IsCl L ps c := by
  refine ⟨h.named, ⟨h.prs, fun i j hi hj hcg => ?_⟩, h.snd⟩
  obtain ⟨h1, h2, h3, h4, h5⟩ := hcg
  obtain ⟨a, ha, ea⟩ := (h.off rfl).2 i hi hi h3
  obtain ⟨b, hb, eb⟩ := (h.off rfl).2 j hj hj h4
  have : keyS c L[i] = keyS c L[j] := by unfold keyS; rw [h1, h2, h5]
  rw [this, hb] at ha
  injection ha with ha
  rw [ea, eb, ha]
end
end Go.Proofs.Ytigambcefdeaoaa
