/-
  Polynomials in memory; what polynomial.add and polynomial.constant do.
  What polynomial.constant and polynomial.multiply do.
-/
import Derived.Test.YtnefhokojbkppaaPMap
import Derived.Test.YtnefhokojbkppaaPolyP
namespace Go.Proofs.Ytnefhokojbkppaa
open Go.RowKit

def kx (s : ByteArray) : Mon := s.data.toList
theorem kx_mk (x : Mon) : kx ⟨x.toArray⟩ = x := by simp [kx]
theorem kx_inj {s q : ByteArray} (h : kx s = kx q) : s = q := by
  rcases s with ⟨s⟩; rcases q with ⟨q⟩
  simp only [kx] at h
  rw [Array.toList_inj.1 h]
theorem kx_len (s : ByteArray) : (kx s).length = s.size := by simp [kx]
/-- The map m reads as the polynomial l; its keys have n bytes. -/
structure Reads (n : Nat) (m : ByteArray → Option Int) (l : PL) : Prop where
  ent : ∀ s c, m s = some c → s.size = n ∧ 0 ≤ c ∧ c < 18446744073709551616
  val : ∀ s, (m s).getD 0 = coef l (kx s) % 18446744073709551616
  sup : ∀ s c, m s = some c → ∃ t ∈ l, t.1 = kx s
theorem Reads.empty (n : Nat) : Reads n (fun _ => none) [] := ⟨by simp, fun s => by simp [coef_nil], by simp⟩
def PolyAt (w : World) (b n : Nat) (l : PL) : Prop := ∃ m, PMap w b m ∧ Reads n m l
def toPL (L : List (ByteArray × Int)) : PL := L.map fun x => (kx x.1, x.2)
section
variable {P : Program} {w w' : World} {b n : Nat} {m : ByteArray → Option Int} {l l' : PL}
theorem PolyAt.lt (h : PolyAt w b n l) : b < w.heap.size := by obtain ⟨_, h, _⟩ := h; exact h.lt
theorem PolyAt.upd {S : Nat → Prop} (h : PolyAt w b n l) (u : Upd S w w') (hS : ¬ S b) : PolyAt w' b n l := by
  obtain ⟨m, h, r⟩ := h
  exact ⟨m, h.upd u hS, r⟩
theorem Reads.congr (h : Reads n m l) (e : Sim l l') : Reads n m l' := ⟨h.ent, fun s => (h.val s).trans (e.1 _), fun s c hs => by obtain ⟨t, ht, q⟩ := h.sup s c hs; obtain ⟨t', ht', q'⟩ := e.2 t ht; exact ⟨t', ht', q'.trans q⟩⟩
theorem PolyAt.congr (h : PolyAt w b n l) (e : Sim l l') : PolyAt w b n l' := by
  obtain ⟨m, h, r⟩ := h
  exact ⟨m, h, r.congr e⟩
theorem PolyAt.new (w : World) (n : Nat) : PolyAt (w.alloc (.map #[] 0)) w.heap.size n [] := ⟨_, PMap.new w, Reads.empty n⟩
theorem Reads.put (h : Reads n m l) {s : ByteArray} (hs : s.size = n) {c d : Int} (hc : c = ((m s).getD 0 + d) % 18446744073709551616) : Reads n (putM m s c) (l ++ [(kx s, d)]) := by
  refine ⟨fun x e hx => ?_, fun x => ?_, fun x e hx => ?_⟩
  · unfold putM at hx
    split at hx
    · rename_i q; subst q
      injection hx with hx
      refine ⟨hs, by omega, by omega⟩
    · exact h.ent x e hx
  rotate_left
  · unfold putM at hx
    split at hx
    · rename_i q; subst q
      exact ⟨(kx x, d), by simp, rfl⟩
    · obtain ⟨t, ht, q⟩ := h.sup x e hx
      exact ⟨t, List.mem_append_left _ ht, q⟩
  · rw [coef_append, coef_one]
    unfold putM
    by_cases q : x = s
    · subst q
      rw [if_pos rfl, if_pos rfl, Option.getD_some, hc, h.val x]
      omega
    · rw [if_neg q, if_neg (fun e => q (kx_inj e).symm), h.val x, Int.add_zero]
theorem PMap.look {t k e : TypeId} (ht : P.underlying t = some (.map k e)) (hk : P.underlying k = some .string) (hz : (zeroValue e).run P w = .ok (.int .u64 0) w) (h : PMap w b m) (s : ByteArray) :
    (Instr.lookup t (.map (some b)) (.string s) false).run P w = .ok (.int .u64 ((m s).getD 0)) w := by
  rw [h.smap.look1 ht hk hz]
  cases m s <;> rfl
theorem coef_mem : ∀ {L : List (ByteArray × Int)} {s : ByteArray} {c : Int}, (L.map (·.1)).Nodup → (s, c) ∈ L → coef (toPL L) (kx s) = c
  | [], _, _, _, h => by simp at h
  | x :: L, s, c, hn, h => by
    have h2 := List.nodup_cons.1 hn
    show lsum _ = _
    simp only [toPL, List.map_cons, lsum]
    rcases List.mem_cons.1 h with rfl | h
    · have : lsum (List.map (fun t => if t.1 = kx s then t.2 else 0) (L.map fun x => (kx x.1, x.2))) = 0 := by
        refine lsum_zero _ _ fun t ht => if_neg fun q => ?_
        obtain ⟨y, hy, rfl⟩ := List.mem_map.1 ht
        exact h2.1 (List.mem_map.2 ⟨y, hy, kx_inj q⟩)
      rw [this]; simp
    · have ih := coef_mem h2.2 h
      have : kx x.1 ≠ kx s := fun q => h2.1 (List.mem_map.2 ⟨_, h, (kx_inj q).symm⟩)
      rw [if_neg this]
      unfold coef toPL at ih
      rw [ih]; omega
/-- All that a map holds. -/
theorem Reads.all (h : Reads n m l) {L : List (ByteArray × Int)} (h1 : ∀ x ∈ L, m x.1 = some x.2) (h2 : (L.map (·.1)).Nodup) (h3 : ∀ s c, m s = some c → (s, c) ∈ L) : Eqv (toPL L) l := fun x => by
  have hv := h.val ⟨x.toArray⟩
  rw [kx_mk] at hv
  rw [← hv]
  cases hm : m ⟨x.toArray⟩ with
  | some c =>
    have := coef_mem h2 (h3 _ _ hm)
    rw [kx_mk] at this
    have hr := h.ent _ _ hm
    rw [this]
    exact Int.emod_eq_of_lt hr.2.1 hr.2.2
  | none =>
    have : coef (toPL L) x = 0 := by
      refine lsum_zero _ _ fun t ht => if_neg fun q => ?_
      obtain ⟨y, hy, rfl⟩ := List.mem_map.1 ht
      have hy2 := h1 y hy
      rw [← q] at hm
      rw [show (⟨(kx y.1).toArray⟩ : ByteArray) = y.1 from kx_inj (kx_mk _), hy2] at hm
      cases hm
    rw [this]; rfl
theorem Reads.sim (h : Reads n m l) {L : List (ByteArray × Int)} (h1 : ∀ x ∈ L, m x.1 = some x.2) (h2 : (L.map (·.1)).Nodup) (h3 : ∀ s c, m s = some c → (s, c) ∈ L) : Sim (toPL L) l :=
  ⟨h.all h1 h2 h3, fun t ht => by obtain ⟨y, hy, rfl⟩ := List.mem_map.1 ht; exact h.sup _ _ (h1 y hy)⟩
theorem Reads.wd (h : Reads n m l) {L : List (ByteArray × Int)} (h1 : ∀ x ∈ L, m x.1 = some x.2) : Wd n (toPL L) := fun t ht => by
  obtain ⟨y, hy, rfl⟩ := List.mem_map.1 ht
  rw [kx_len]
  exact (h.ent _ _ (h1 y hy)).1
theorem toPL_snoc (L : List (ByteArray × Int)) (s : ByteArray) (c : Int) : toPL (L ++ [(s, c)]) = toPL L ++ [(kx s, c)] := by simp [toPL]
theorem scale_append (a : Int) (l l' : PL) : scale a (l ++ l') = scale a l ++ scale a l' := by simp [scale]
end
theorem zeroU (w : World) : (zeroValue 30).run Try.prog w = .ok (.int .u64 0) w := by kernel_rfl

set_option maxRecDepth 100000 in
set_option maxHeartbeats 4000000 in
theorem pAdd_c (a b n : Nat) (l t : PL) (times : Int) (w : World) (ha : PolyAt w a n l) (hb : PolyAt w b n t) (hab : a ≠ b) :
    Calls Try.prog 46 #[.map (some a), .map (some b), .int .u64 times] w fun e w' => e = .returned (.tuple #[]) ∧ PolyAt w' a n (l ++ scale times t) ∧ Upd (· = a) w w' := by
  obtain ⟨mt, hpb, hrt⟩ := hb
  obtain ⟨k0, o, hrange, hit0⟩ := hpb.range Try.underlying63
  have hla := ha.lt
  have ha0 := ha.upd (Upd.refl.alloc (S := Non) o) (fun f => f)
  have hu0 : Upd (· = a) w (w.alloc o) := Upd.refl.alloc o
  have HRT := Lib.hid hrt
  clear ha hpb hrt
  go_enter Try.func46, Try.ntmps46
  go_wp2_with fail
  go_loopg [6] k0 (fun g _ wr => ∃ L, PIter wr w.heap.size b mt L g ∧ PolyAt wr a n (l ++ scale times (toPL L)) ∧ Upd (· = a) w wr ∧ Hid ((L.map (·.1)).Nodup))
  case atStart => exact ⟨[], hit0, by simpa [toPL, scale] using ha0, hu0, by simp [Hid]⟩
  case round =>
    obtain ⟨L, hit, hp, hu, HN⟩ := hrel
    rcases hit.next (P := Try.prog) 0 with ⟨hnext, hall⟩ | ⟨s, c, k', w2, hk, hm, hnew, hnext, hu2, hit2, hentry⟩
    · have hE : Sim (l ++ scale times (toPL L)) (l ++ scale times t) := Sim.refl.append ((HRT.out.sim hit.some_ HN.out hall).scale times)
      have HP := Lib.hid (hp.congr hE)
      clear hall hE hp
      go_wp2_with fail
      go_end0
      exact ⟨rfl, HP.out, hu⟩
    · obtain ⟨ma, hpa, hra⟩ := hp.upd hu2 (by omega)
      have hlook := hpa.look (P := Try.prog) Try.underlying63 Try.underlying9 (zeroU _) s
      obtain ⟨v, Hv⟩ := nm ((ma s).getD 0)
      rw [Hv.out] at hlook
      have hsn := (HRT.out.ent s c hm).1
      obtain ⟨w3, hst, hpa3, hu3⟩ := hpa.store (P := Try.prog) Try.underlying63 Try.underlying9 s ((v + times * c) % 18446744073709551616)
      have hra3 := Lib.hid (hra.put hsn (c := (v + times * c) % 18446744073709551616) (d := times * c) (by rw [Hv.out]))
      have hx1 : IntKind.u64.wrap (times * c) = (times * c) % 18446744073709551616 := by rw [IntKind.wrap_u64]
      have hx2 : IntKind.u64.wrap (v + (times * c) % 18446744073709551616) = (v + times * c) % 18446744073709551616 := by rw [IntKind.wrap_u64]; omega
      have hlt1 := hit.lt
      have HIT := Lib.hid (hit2.upd hu3 (by omega) (by omega))
      have hU := (hu.trans hu2 (fun i _ e => by omega)).trans hu3 (fun i _ e => e)
      have HNN : Hid (((L ++ [(s, c)]).map (·.1)).Nodup) := by
        show List.Nodup _
        rw [List.map_append]
        refine List.pairwise_append.2 ⟨HN.out, by simp, fun x hx y hy => ?_⟩
        simp only [List.map_cons, List.map_nil, List.mem_singleton] at hy
        subst hy
        obtain ⟨z, hz, rfl⟩ := List.mem_map.1 hx
        exact hnew z hz
      clear hm hnew hpa hra hit hsn
      go_wp2_with fail
      go_roundg k'
      case measure => omega
      case rel => exact ⟨L ++ [(s, c)], HIT.out, ⟨_, hpa3, by rw [toPL_snoc, scale_append, ← List.append_assoc]; exact hra3.out⟩, hU, HNN⟩
end Go.Proofs.Ytnefhokojbkppaa

namespace Go.Proofs.Ytnefhokojbkppaa
open Go.RowKit

theorem T_u8s : SlT Try.prog 84 5 1 1 := by
  obtain ⟨i, h1, h2, h3, h4⟩ := info_parts (show (Try.prog.info? 5).map (fun i => (i.zero, i.size, i.bytes)) = some (some (.int .u8 0), 1, 1) from by kernel_rfl)
  exact ⟨Try.underlying84, ⟨i, _, h1, h2, h3, h4, rfl⟩, by omega⟩
theorem zero_u8 : (Try.prog.info? 5).bind (·.zero) = some (.int .u8 0) := by kernel_rfl
/-- Bytes as cells. -/
def u8s (l : Mon) : List Value := l.map fun x => Value.int .u8 (x.toNat : Int)
def U8Blk (w : World) (g : Nat) (l : Mon) : Prop := Blk w g 5 (u8s l).toArray
theorem U8Blk.mk0 (w : World) (n : Nat) : U8Blk (w.alloc (.cells (Array.replicate n (.int .u8 0)) 5)) w.heap.size (zeroM n) := by
  unfold U8Blk
  rw [show (u8s (zeroM n)).toArray = Array.replicate n (Value.int .u8 0) by simp [u8s, zeroM]]
  exact Blk.new _ _ _
theorem U8Blk.set_ {w : World} {g : Nat} {l : Mon} (h : U8Blk w g l) (i : Nat) (x : UInt8) : U8Blk (w.setCell ⟨g, i, none⟩ (.int .u8 (x.toNat : Int))) g (l.set i x) := by
  have := Blk.set_ h i (.int .u8 (x.toNat : Int))
  unfold U8Blk
  rw [show (u8s (l.set i x)).toArray = (u8s l).toArray.setIfInBounds i (.int .u8 (x.toNat : Int)) by simp [u8s, List.map_set]]
  exact this
/-- The string of the bytes. -/
def kstr (l : Mon) : ByteArray := ⟨l.toArray⟩
theorem kx_kstr (l : Mon) : kx (kstr l) = l := kx_mk l
theorem kstr_size (l : Mon) : (kstr l).size = l.length := by rw [← kx_len, kx_kstr]
theorem bstr_u8 (l : Mon) : bstr (l.map fun x => (x.toNat : Int)) = kstr l := by
  unfold bstr kstr
  congr 2
  rw [List.map_map]
  conv => rhs; rw [← List.map_id l]
  refine List.map_congr_left fun x _ => ?_
  simp
theorem run_kstr {w : World} {g : Nat} {l : Mon} {c n : Nat} (h : U8Blk w g l) (hn : n = l.length) : (convert 84 9 (.slice (some ⟨g, 0, none⟩) n c)).run Try.prog w = .ok (.string (kstr l)) w := by
  have hs : Sl w (· = g) (some ⟨g, 0, none⟩) ((l.map fun x => (x.toNat : Int)).map fun x => Value.int .u8 x) := by
    have := Sl.of_blk (F := (· = g)) rfl h l.length
    rw [show (u8s l).toArray.toList.take l.length = (l.map fun x => (x.toNat : Int)).map fun x => Value.int .u8 x by
      rw [List.take_of_length_le (by simp [u8s]), List.map_map]; rfl] at this
    exact this
  rw [run_str Try.underlying84 Try.underlying5 Try.underlying9 hs (by simpa using hn), bstr_u8]
theorem run_at_str {s : ByteArray} {n i : Nat} (h : s.size = n) (hi : i < n) (w : World) : (Instr.index 9 (.string s) (.int .i64 (i : Int))).run Try.prog w = .ok (.int .u8 (((kx s).getD i 0).toNat : Int)) w := by
  rw [run_index_string w 9 s .i64 i Try.underlying9, dif_pos (by omega)]
  congr 3
  have : i < (kx s).length := by rw [kx_len]; omega
  simp only [List.getD, List.getElem?_eq_getElem this, Option.getD_some, Int.toNat_natCast]
  simp [kx, ByteArray.getElem_eq_getElem_data]
theorem u8_wrap (x y : UInt8) : IntKind.u8.wrap ((x.toNat : Int) + (y.toNat : Int)) = ((x + y).toNat : Int) := by
  rw [IntKind.wrap_u8, UInt8.toNat_add]
  omega
/-- The sum of two monomials, the first k places of it. -/
def psum (a b : Mon) (n k : Nat) : Mon := (madd a b).take k ++ List.replicate (n - k) 0
theorem psum_zero (a b : Mon) (n : Nat) : psum a b n 0 = zeroM n := by simp [psum, zeroM]
theorem psum_full {a b : Mon} {n : Nat} (ha : a.length = n) (hb : b.length = n) : psum a b n n = madd a b := by
  have := madd_len ha hb
  simp [psum, List.take_of_length_le (Nat.le_of_eq this)]
theorem psum_len {a b : Mon} {n : Nat} (ha : a.length = n) (hb : b.length = n) (k : Nat) (hk : k ≤ n) : (psum a b n k).length = n := by
  have := madd_len ha hb
  simp [psum, this]; omega
theorem psum_step {a b : Mon} {n k : Nat} (ha : a.length = n) (hb : b.length = n) (hk : k < n) : (psum a b n k).set k (a.getD k 0 + b.getD k 0) = psum a b n (k + 1) := by
  have hm := madd_len ha hb
  unfold psum
  rw [List.set_append_right _ _ (by simp [Nat.min_le_left])]
  rw [List.take_add_one, List.append_assoc]
  congr 1
  have h1 : (madd a b)[k]? = some (a.getD k 0 + b.getD k 0) := by
    rw [List.getElem?_eq_getElem (by omega)]
    simp [madd, List.getD, List.getElem?_eq_getElem (show k < a.length by omega), List.getElem?_eq_getElem (show k < b.length by omega)]
  rw [h1]
  rw [show n - k = (n - (k + 1)) + 1 by omega, List.replicate_succ]
  simp [hm, Nat.min_eq_left (Nat.le_of_lt hk)]

set_option maxRecDepth 100000 in
set_option maxHeartbeats 4000000 in
theorem pConstant_c (c : Int) (n : Nat) (w : World) (hn : n ≤ 1000000) (hc : 0 ≤ c ∧ c < 18446744073709551616) :
    Calls Try.prog 45 #[.int .u64 c, .int .i64 n] w fun e w' => ∃ r, e = .returned (.map (some r)) ∧ w.heap.size ≤ r ∧ PolyAt w' r n [(zeroM n, c)] ∧ Upd Non w w' := by
  have hmm := @run_makeMap Try.prog
  have hmk := run_mk (P := Try.prog) T_u8s zero_u8 rfl n (by omega) (by omega)
  obtain ⟨W1, HW1⟩ := nm (w.alloc (.map #[] 0))
  have e1 := HW1.out
  have hp1 : PMap W1 w.heap.size (fun _ => none) := by rw [← e1]; exact PMap.new w
  have hu1 : Upd Non w W1 := by rw [← e1]; exact Upd.refl.alloc _
  have hs1 : W1.heap.size = w.heap.size + 1 := by rw [← e1]; simp
  obtain ⟨W2, HW2⟩ := nm (W1.alloc (.cells (Array.replicate n (.int .u8 0)) 5))
  have e2 := HW2.out
  have hu2 : Upd Non W1 W2 := by rw [← e2]; exact Upd.refl.alloc _
  have hb2 : U8Blk W2 W1.heap.size (zeroM n) := by rw [← e2]; exact U8Blk.mk0 W1 n
  rw [hs1] at hb2
  have hcv := run_kstr (c := n) hb2 (show n = (zeroM n).length by simp [zeroM])
  obtain ⟨w3, hst, hp3, hu3⟩ := (hp1.upd hu2 (fun f => f)).store (P := Try.prog) Try.underlying63 Try.underlying9 (kstr (zeroM n)) c
  clear hp1
  go_enter Try.func45, Try.ntmps45
  go_wp2_with fail
  go_ret
  refine ⟨_, rfl, Nat.le_refl _, ⟨_, hp3, ?_⟩, (hu1.trans hu2 (fun _ _ f => f)).trans hu3 (fun i hi q => by omega)⟩
  have hr := Reads.empty n
  have := hr.put (s := kstr (zeroM n)) (by simp [kstr_size, zeroM]) (c := c) (d := c) (by simp; omega)
  rwa [kx_kstr] at this

theorem shiftP_append (j : Mon) (c : Int) (l l' : PL) : shiftP j c (l ++ l') = shiftP j c l ++ shiftP j c l' := by simp [shiftP]

set_option maxRecDepth 100000 in
set_option maxHeartbeats 4000000 in
theorem pMultiply_c (a b n : Nat) (l t : PL) (w : World) (ha : PolyAt w a n l) (hb : PolyAt w b n t) (hwa : Wd n l) (hwb : Wd n t) (hn : n ≤ 1000000) :
    Calls Try.prog 47 #[.map (some a), .map (some b), .int .i64 n] w fun e w' => ∃ r, e = .returned (.map (some r)) ∧ w.heap.size ≤ r ∧ PolyAt w' r n (pairs l t) ∧ Upd Non w w' := by
  obtain ⟨ma, hpa, hra⟩ := ha
  obtain ⟨mb, hpb, hrb⟩ := hb
  have hmm := @run_makeMap Try.prog
  have hmk := run_mk (P := Try.prog) T_u8s zero_u8 rfl n (by omega) (by omega)
  obtain ⟨W1, HW1⟩ := nm (w.alloc (.map #[] 0))
  have e1 := HW1.out
  have hp1 : PolyAt W1 w.heap.size n [] := by rw [← e1]; exact PolyAt.new w n
  have hu1 : Upd Non w W1 := by rw [← e1]; exact Upd.refl.alloc _
  have hs1 : W1.heap.size = w.heap.size + 1 := by rw [← e1]; simp
  have hla := hpa.lt
  have hlb := hpb.lt
  obtain ⟨k0, o, hrange, hit0⟩ := (hpa.upd hu1 (fun f => f)).range (P := Try.prog) Try.underlying63
  rw [hs1] at hrange hit0
  have HRA := Lib.hid hra
  have HRB := Lib.hid hrb
  have HWA := Lib.hid hwa
  have HWB := Lib.hid hwb
  have hu0 : Upd Non w (W1.alloc o) := hu1.alloc o
  have hpb0 := hpb.upd hu0 (fun f => f)
  have hp0 := hp1.upd (Upd.refl.alloc (S := Non) o) (fun f => f)
  clear hp1 hra hrb hpa hpb hwa hwb
  go_enter Try.func47, Try.ntmps47
  go_wp2_with fail
  go_loopg [8] k0 (fun g _ wr => ∃ L, PIter wr (w.heap.size + 1) a ma L g ∧ PMap wr b mb ∧ PolyAt wr w.heap.size n (pairs (toPL L) t) ∧ Upd Non w wr ∧ Hid ((L.map (·.1)).Nodup))
  case atStart => exact ⟨[], hit0, hpb0, by simpa [toPL, pairs] using hp0, hu0, by simp [Hid]⟩
  case round =>
    clear hit0 hpb0 hp0 hu0 hrange
    obtain ⟨L, hit, hpb, hp, hu, HN⟩ := hrel
    rcases hit.next (P := Try.prog) 0 with ⟨hnext, hall⟩ | ⟨s, c, k', w2, hk, hm, hnew, hnext, hu2, hit2, hentry⟩
    · have hE : Sim (pairs (toPL L) t) (pairs l t) := Sim.pairs (HRA.out.wd hit.some_) HWA.out HWB.out HWB.out (HRA.out.sim hit.some_ HN.out hall) Sim.refl
      have HP := Lib.hid (hp.congr hE)
      clear hall hE hp
      go_wp2_with fail
      go_ret
      exact ⟨_, rfl, Nat.le_refl _, HP.out, hu⟩
    · have hpb2 := hpb.upd hu2 (by omega)
      have hp2 := hp.upd hu2 (by omega)
      have hU2 : Upd Non w w2 := hu.trans hu2 (fun i hi q => by omega)
      have hsn : s.size = n := (HRA.out.ent s c hm).1
      have hlt2 := hit2.lt
      obtain ⟨k1, o2, hrange2, hitb0⟩ := hpb2.range (P := Try.prog) Try.underlying63
      have hpb3 := hpb2.upd (Upd.refl.alloc (S := Non) o2) (fun f => f)
      have hp3 := hp2.upd (Upd.refl.alloc (S := Non) o2) (fun f => f)
      have hit3 := hit2.upd (Upd.refl.alloc (S := Non) o2) (fun f => f) (fun f => f)
      have hU3 : Upd Non w (w2.alloc o2) := hU2.alloc o2
      have HNN : Hid (((L ++ [(s, c)]).map (·.1)).Nodup) := by
        show List.Nodup _
        rw [List.map_append]
        refine List.pairwise_append.2 ⟨HN.out, by simp, fun x hx y hy => ?_⟩
        simp only [List.map_cons, List.map_nil, List.mem_singleton] at hy
        subst hy
        obtain ⟨z, hz, rfl⟩ := List.mem_map.1 hx
        exact hnew z hz
      have HK := Lib.hid hk
      obtain ⟨B, HB⟩ := nm w2.heap.size
      have hB : w.heap.size + 1 < B := by rw [← HB.out]; exact hlt2.1
      rw [HB.out] at hrange2 hitb0
      clear hm hnew hp hit hpb hpb2 hp2 hit2 hk
      go_wp2_with fail
      go_loopg [10] k1 (fun g _ wr => ∃ L2, PIter wr B b mb L2 g ∧ PIter wr (w.heap.size + 1) a ma (L ++ [(s, c)]) k' ∧ PMap wr b mb ∧ PolyAt wr w.heap.size n (pairs (toPL L) t ++ shiftP (kx s) c (toPL L2)) ∧ Upd Non w wr ∧ Hid ((L2.map (·.1)).Nodup))
      case atStart => exact ⟨[], hitb0, hit3, hpb3, by simpa [toPL, shiftP] using hp3, hU3, by simp [Hid]⟩
      case round =>
        clear hitb0 hit3 hpb3 hp3 hU3 hrange2 hU2 hu hnext hentry
        obtain ⟨L2, hitb, hit, hpb, hp, hu, HN2⟩ := hrel
        rcases hitb.next (P := Try.prog) 0 with ⟨hnext, hall⟩ | ⟨s2, d, k2, w3, hk2, hm2, hnew2, hnext, hu3, hitb3, hentry⟩
        · have hE : Sim (pairs (toPL L) t ++ shiftP (kx s) c (toPL L2)) (pairs (toPL (L ++ [(s, c)])) t) := by
            rw [toPL_snoc, pairs_snoc]
            exact Sim.refl.append (Sim.shift (by rw [kx_len, hsn]) (HRB.out.wd hitb.some_) HWB.out c (HRB.out.sim hitb.some_ HN2.out hall))
          have HP := Lib.hid (hp.congr hE)
          clear hall hE hp
          go_wp2_with fail
          go_roundg k'
          case measure => rw [HK.out]; omega
          case rel => exact ⟨L ++ [(s, c)], hit, hpb, HP.out, hu, HNN⟩
        · have hltb := hitb3.lt
          have hs2n : s2.size = n := (HRB.out.ent s2 d hm2).1
          have hpb3 := hpb.upd hu3 (by omega)
          have hp3 := hp.upd hu3 (by omega)
          have hit3 := hit.upd hu3 (by omega) (by omega)
          have hU3 : Upd Non w w3 := hu.trans hu3 (fun i hi q => by omega)
          have HNN2 : Hid (((L2 ++ [(s2, d)]).map (·.1)).Nodup) := by
            show List.Nodup _
            rw [List.map_append]
            refine List.pairwise_append.2 ⟨HN2.out, by simp, fun x hx y hy => ?_⟩
            simp only [List.map_cons, List.map_nil, List.mem_singleton] at hy
            subst hy
            obtain ⟨z, hz, rfl⟩ := List.mem_map.1 hx
            exact hnew2 z hz
          have HK2 := Lib.hid hk2
          obtain ⟨B3, HB3⟩ := nm w3.heap.size
          have hB3 : B < B3 := by rw [← HB3.out]; exact hltb.1
          obtain ⟨W4, HW4⟩ := nm (w3.alloc (.cells (Array.replicate n (.int .u8 0)) 5))
          have e4 := HW4.out
          have hu4 : Upd Non w3 W4 := by rw [← e4]; exact Upd.refl.alloc _
          have hq4 : U8Blk W4 B3 (psum (kx s) (kx s2) n 0) := by rw [← e4, psum_zero, ← HB3.out]; exact U8Blk.mk0 w3 n
          have e3 := HB3.out
          have hpb4 := hpb3.upd hu4 (fun f => f)
          have hp4 := hp3.upd hu4 (fun f => f)
          have hit4 := hit3.upd hu4 (fun f => f) (fun f => f)
          have hitb4 := hitb3.upd hu4 (fun f => f) (fun f => f)
          have hU4 : Upd Non w W4 := hU3.trans hu4 (fun _ _ f => f)
          have hsz4 : B3 < W4.heap.size := Blk.lt hq4
          clear hm2 hnew2 hp hit hpb hitb hk2 hp3 hpb3 hit3 hitb3 hU3 hu3 hu hu4
          go_wp2_with fail
          go_loopg [33] n (fun g v wr => ∃ k : Nat, Hid (g = n - k) ∧ k ≤ n ∧ v = .int .i64 k ∧ U8Blk wr B3 (psum (kx s) (kx s2) n k) ∧ Upd (· = B3) W4 wr)
          case atStart => exact ⟨0, rfl, by omega, rfl, hq4, Upd.refl⟩
          case round =>
            obtain ⟨k, Hg, hk, rfl, hq, hu⟩ := hrel
            by_cases hlt : k < n
            · have x1 := run_at_str hsn hlt
              have x2 := run_at_str hs2n hlt
              obtain ⟨y1, H1⟩ := nm ((kx s).getD k 0)
              obtain ⟨y2, H2⟩ := nm ((kx s2).getD k 0)
              rw [H1.out] at x1
              rw [H2.out] at x2
              have x3 := u8_wrap y1 y2
              have hfr := Blk.frozen hq
              have hlen := psum_len (a := kx s) (b := kx s2) (n := n) (by rw [kx_len, hsn]) (by rw [kx_len, hs2n]) k hk
              obtain ⟨z, hz⟩ : ∃ z, wr.cell? ⟨B3, k, none⟩ = some z := by
                rw [Blk.cell hq]; exact ⟨_, Array.getElem?_eq_getElem (by simp [u8s]; omega)⟩
              go_wp2_with fail
              go_region_held3 (fun _ => True) (trivial) (fail)
              all_goals
                have HQ := Lib.hid (Blk.drew (U8Blk.set_ hq k (y1 + y2)))
                have HX3 := Lib.hid x3
                have HU : Upd (· = B3) W4 (wr.setCell ⟨B3, k, none⟩ (.int .u8 (((y1 + y2).toNat : Nat) : Int))).drew := (hu.setCell (p := ⟨B3, k, none⟩) (.inl rfl) _).drew
                rw [show (((y1 + y2).toNat : Nat) : Int) = ((y1.toNat : Int) + (y2.toNat : Int)) % 256 by rw [← x3, IntKind.wrap_u8]] at HU HQ
                rw [← H1.out, ← H2.out, psum_step (by rw [kx_len, hsn]) (by rw [kx_len, hs2n]) hlt] at HQ
                rw [H1.out, H2.out] at HQ
                clear hq hu x3 hfr hz
                go_wp2_with fail
                go_roundg (n - (k + 1))
                case measure => rw [Hg.out]; omega
                case rel => exact ⟨k + 1, rfl, by omega, by go_num, HQ.out, HU⟩
            · obtain rfl : n = k := by omega
              rw [psum_full (by rw [kx_len, hsn]) (by rw [kx_len, hs2n])] at hq
              have hml : (madd (kx s) (kx s2)).length = n := madd_len (by rw [kx_len, hsn]) (by rw [kx_len, hs2n])
              have hcv := run_kstr (c := n) hq hml.symm
              obtain ⟨ms, hps, hrs⟩ := hp4.upd hu (by omega)
              have hlook := hps.look (P := Try.prog) Try.underlying63 Try.underlying9 (zeroU _) (kstr (madd (kx s) (kx s2)))
              obtain ⟨v, Hv⟩ := nm ((ms (kstr (madd (kx s) (kx s2)))).getD 0)
              rw [Hv.out] at hlook
              obtain ⟨w5, hst, hps5, hu5⟩ := hps.store (P := Try.prog) Try.underlying63 Try.underlying9 (kstr (madd (kx s) (kx s2))) ((v + c * d) % 18446744073709551616)
              have hrs5 := Lib.hid (hrs.put (s := kstr (madd (kx s) (kx s2))) (by rw [kstr_size, hml]) (c := (v + c * d) % 18446744073709551616) (d := c * d) (by rw [Hv.out]))
              rw [kx_kstr] at hrs5
              have hx1 : IntKind.u64.wrap (c * d) = (c * d) % 18446744073709551616 := by rw [IntKind.wrap_u64]
              have hx2 : IntKind.u64.wrap (v + (c * d) % 18446744073709551616) = (v + c * d) % 18446744073709551616 := by rw [IntKind.wrap_u64]; omega
              have hlt1 := hit4.lt
              have HIT := Lib.hid ((hit4.upd hu (by omega) (by omega)).upd hu5 (by omega) (by omega))
              have HITB := Lib.hid ((hitb4.upd hu (by omega) (by omega)).upd hu5 (by omega) (by omega))
              have HPB := Lib.hid ((hpb4.upd hu (by omega)).upd hu5 (by omega))
              have HU := (hU4.trans hu (fun i hi q => by omega)).trans hu5 (fun i hi q => by omega)
              clear hq hu hps hrs hit4 hitb4 hpb4 hp4 hq4 hml Hg hlt hk
              go_wp2_with fail
              go_roundg k2
              case measure => rw [HK2.out]; omega
              case rel => exact ⟨L2 ++ [(s2, d)], HITB.out, HIT.out, HPB.out, ⟨_, hps5, by rw [toPL_snoc, shiftP_append, ← List.append_assoc]; exact hrs5.out⟩, HU, HNN2⟩
end Go.Proofs.Ytnefhokojbkppaa
