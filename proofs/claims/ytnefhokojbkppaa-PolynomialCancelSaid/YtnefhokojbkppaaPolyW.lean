/-
  Polynomials in memory; what polynomial.add and polynomial.constant do.
-/
import Derived.Test.YtnefhokojbkppaaPMap
import Derived.Test.YtnefhokojbkppaaPolyP
namespace Go.Proofs.Ytnefhokojbkppaa
open Go.RowKit

def kx (s : ByteArray) : Mon := s.data.toList
theorem kx_mk (x : Mon) : kx ⟨x.toArray⟩ = x := by simp [kx]
theorem kx_inj {s q : ByteArray} (h : kx s = kx q) : s = q := by
  rcases s with ⟨s⟩; rcases q with ⟨q⟩
  simp only [kx] at h
  rw [Array.toList_inj.1 h]
theorem kx_len (s : ByteArray) : (kx s).length = s.size := by simp [kx]
/-- The map m reads as the polynomial l; its keys have n bytes. -/
structure Reads (n : Nat) (m : ByteArray → Option Int) (l : PL) : Prop where
  ent : ∀ s c, m s = some c → s.size = n ∧ 0 ≤ c ∧ c < 18446744073709551616
  val : ∀ s, (m s).getD 0 = coef l (kx s) % 18446744073709551616
  sup : ∀ s c, m s = some c → ∃ t ∈ l, t.1 = kx s
theorem Reads.empty (n : Nat) : Reads n (fun _ => none) [] := ⟨by simp, fun s => by simp [coef_nil], by simp⟩
def PolyAt (w : World) (b n : Nat) (l : PL) : Prop := ∃ m, PMap w b m ∧ Reads n m l
def toPL (L : List (ByteArray × Int)) : PL := L.map fun x => (kx x.1, x.2)
section
variable {P : Program} {w w' : World} {b n : Nat} {m : ByteArray → Option Int} {l l' : PL}
theorem PolyAt.lt (h : PolyAt w b n l) : b < w.heap.size := by obtain ⟨_, h, _⟩ := h; exact h.lt
theorem PolyAt.upd {S : Nat → Prop} (h : PolyAt w b n l) (u : Upd S w w') (hS : ¬ S b) : PolyAt w' b n l := by
  obtain ⟨m, h, r⟩ := h
  exact ⟨m, h.upd u hS, r⟩
theorem Reads.congr (h : Reads n m l) (e : Sim l l') : Reads n m l' := ⟨h.ent, fun s => (h.val s).trans (e.1 _), fun s c hs => by obtain ⟨t, ht, q⟩ := h.sup s c hs; obtain ⟨t', ht', q'⟩ := e.2 t ht; exact ⟨t', ht', q'.trans q⟩⟩
theorem PolyAt.congr (h : PolyAt w b n l) (e : Sim l l') : PolyAt w b n l' := by
  obtain ⟨m, h, r⟩ := h
  exact ⟨m, h, r.congr e⟩
theorem PolyAt.new (w : World) (n : Nat) : PolyAt (w.alloc (.map #[] 0)) w.heap.size n [] := ⟨_, PMap.new w, Reads.empty n⟩
theorem Reads.put (h : Reads n m l) {s : ByteArray} (hs : s.size = n) {c d : Int} (hc : c = ((m s).getD 0 + d) % 18446744073709551616) : Reads n (putM m s c) (l ++ [(kx s, d)]) := by
  refine ⟨fun x e hx => ?_, fun x => ?_, fun x e hx => ?_⟩
  · unfold putM at hx
    split at hx
    · rename_i q; subst q
      injection hx with hx
      refine ⟨hs, by omega, by omega⟩
    · exact h.ent x e hx
  rotate_left
  · unfold putM at hx
    split at hx
    · rename_i q; subst q
      exact ⟨(kx x, d), by simp, rfl⟩
    · obtain ⟨t, ht, q⟩ := h.sup x e hx
      exact ⟨t, List.mem_append_left _ ht, q⟩
  · rw [coef_append, coef_one]
    unfold putM
    by_cases q : x = s
    · subst q
      rw [if_pos rfl, if_pos rfl, Option.getD_some, hc, h.val x]
      omega
    · rw [if_neg q, if_neg (fun e => q (kx_inj e).symm), h.val x, Int.add_zero]
theorem PMap.look {t k e : TypeId} (ht : P.underlying t = some (.map k e)) (hk : P.underlying k = some .string) (hz : (zeroValue e).run P w = .ok (.int .u64 0) w) (h : PMap w b m) (s : ByteArray) :
    (Instr.lookup t (.map (some b)) (.string s) false).run P w = .ok (.int .u64 ((m s).getD 0)) w := by
  rw [h.smap.look1 ht hk hz]
  cases m s <;> rfl
theorem coef_mem : ∀ {L : List (ByteArray × Int)} {s : ByteArray} {c : Int}, (L.map (·.1)).Nodup → (s, c) ∈ L → coef (toPL L) (kx s) = c
  | [], _, _, _, h => by simp at h
  | x :: L, s, c, hn, h => by
    have h2 := List.nodup_cons.1 hn
    show lsum _ = _
    simp only [toPL, List.map_cons, lsum]
    rcases List.mem_cons.1 h with rfl | h
    · have : lsum (List.map (fun t => if t.1 = kx s then t.2 else 0) (L.map fun x => (kx x.1, x.2))) = 0 := by
        refine lsum_zero _ _ fun t ht => if_neg fun q => ?_
        obtain ⟨y, hy, rfl⟩ := List.mem_map.1 ht
        exact h2.1 (List.mem_map.2 ⟨y, hy, kx_inj q⟩)
      rw [this]; simp
    · have ih := coef_mem h2.2 h
      have : kx x.1 ≠ kx s := fun q => h2.1 (List.mem_map.2 ⟨_, h, (kx_inj q).symm⟩)
      rw [if_neg this]
      unfold coef toPL at ih
      rw [ih]; omega
/-- All that a map holds. -/
theorem Reads.all (h : Reads n m l) {L : List (ByteArray × Int)} (h1 : ∀ x ∈ L, m x.1 = some x.2) (h2 : (L.map (·.1)).Nodup) (h3 : ∀ s c, m s = some c → (s, c) ∈ L) : Eqv (toPL L) l := fun x => by
  have hv := h.val ⟨x.toArray⟩
  rw [kx_mk] at hv
  rw [← hv]
  cases hm : m ⟨x.toArray⟩ with
  | some c =>
    have := coef_mem h2 (h3 _ _ hm)
    rw [kx_mk] at this
    have hr := h.ent _ _ hm
    rw [this]
    exact Int.emod_eq_of_lt hr.2.1 hr.2.2
  | none =>
    have : coef (toPL L) x = 0 := by
      refine lsum_zero _ _ fun t ht => if_neg fun q => ?_
      obtain ⟨y, hy, rfl⟩ := List.mem_map.1 ht
      have hy2 := h1 y hy
      rw [← q] at hm
      rw [show (⟨(kx y.1).toArray⟩ : ByteArray) = y.1 from kx_inj (kx_mk _), hy2] at hm
      cases hm
    rw [this]; rfl
theorem Reads.sim (h : Reads n m l) {L : List (ByteArray × Int)} (h1 : ∀ x ∈ L, m x.1 = some x.2) (h2 : (L.map (·.1)).Nodup) (h3 : ∀ s c, m s = some c → (s, c) ∈ L) : Sim (toPL L) l :=
  ⟨h.all h1 h2 h3, fun t ht => by obtain ⟨y, hy, rfl⟩ := List.mem_map.1 ht; exact h.sup _ _ (h1 y hy)⟩
theorem Reads.wd (h : Reads n m l) {L : List (ByteArray × Int)} (h1 : ∀ x ∈ L, m x.1 = some x.2) : Wd n (toPL L) := fun t ht => by
  obtain ⟨y, hy, rfl⟩ := List.mem_map.1 ht
  rw [kx_len]
  exact (h.ent _ _ (h1 y hy)).1
theorem toPL_snoc (L : List (ByteArray × Int)) (s : ByteArray) (c : Int) : toPL (L ++ [(s, c)]) = toPL L ++ [(kx s, c)] := by simp [toPL]
theorem scale_append (a : Int) (l l' : PL) : scale a (l ++ l') = scale a l ++ scale a l' := by simp [scale]
end
theorem zeroU (w : World) : (zeroValue 30).run Try.prog w = .ok (.int .u64 0) w := by kernel_rfl

set_option maxRecDepth 100000 in
set_option maxHeartbeats 4000000 in
theorem pAdd_c (a b n : Nat) (l t : PL) (times : Int) (w : World) (ha : PolyAt w a n l) (hb : PolyAt w b n t) (hab : a ≠ b) :
    Calls Try.prog 46 #[.map (some a), .map (some b), .int .u64 times] w fun e w' => e = .returned (.tuple #[]) ∧ PolyAt w' a n (l ++ scale times t) ∧ Upd (· = a) w w' := by
  obtain ⟨mt, hpb, hrt⟩ := hb
  obtain ⟨k0, o, hrange, hit0⟩ := hpb.range Try.underlying63
  have hla := ha.lt
  have ha0 := ha.upd (Upd.refl.alloc (S := Non) o) (fun f => f)
  have hu0 : Upd (· = a) w (w.alloc o) := Upd.refl.alloc o
  have HRT := Lib.hid hrt
  clear ha hpb hrt
  go_enter Try.func46, Try.ntmps46
  go_wp2_with fail
  go_loopg [6] k0 (fun g _ wr => ∃ L, PIter wr w.heap.size b mt L g ∧ PolyAt wr a n (l ++ scale times (toPL L)) ∧ Upd (· = a) w wr ∧ Hid ((L.map (·.1)).Nodup))
  case atStart => exact ⟨[], hit0, by simpa [toPL, scale] using ha0, hu0, by simp [Hid]⟩
  case round =>
    obtain ⟨L, hit, hp, hu, HN⟩ := hrel
    rcases hit.next (P := Try.prog) 0 with ⟨hnext, hall⟩ | ⟨s, c, k', w2, hk, hm, hnew, hnext, hu2, hit2, hentry⟩
    · have hE : Sim (l ++ scale times (toPL L)) (l ++ scale times t) := Sim.refl.append ((HRT.out.sim hit.some_ HN.out hall).scale times)
      have HP := Lib.hid (hp.congr hE)
      clear hall hE hp
      go_wp2_with fail
      go_end0
      exact ⟨rfl, HP.out, hu⟩
    · obtain ⟨ma, hpa, hra⟩ := hp.upd hu2 (by omega)
      have hlook := hpa.look (P := Try.prog) Try.underlying63 Try.underlying9 (zeroU _) s
      obtain ⟨v, Hv⟩ := nm ((ma s).getD 0)
      rw [Hv.out] at hlook
      have hsn := (HRT.out.ent s c hm).1
      obtain ⟨w3, hst, hpa3, hu3⟩ := hpa.store (P := Try.prog) Try.underlying63 Try.underlying9 s ((v + times * c) % 18446744073709551616)
      have hra3 := Lib.hid (hra.put hsn (c := (v + times * c) % 18446744073709551616) (d := times * c) (by rw [Hv.out]))
      have hx1 : IntKind.u64.wrap (times * c) = (times * c) % 18446744073709551616 := by rw [IntKind.wrap_u64]
      have hx2 : IntKind.u64.wrap (v + (times * c) % 18446744073709551616) = (v + times * c) % 18446744073709551616 := by rw [IntKind.wrap_u64]; omega
      have hlt1 := hit.lt
      have HIT := Lib.hid (hit2.upd hu3 (by omega) (by omega))
      have hU := (hu.trans hu2 (fun i _ e => by omega)).trans hu3 (fun i _ e => e)
      have HNN : Hid (((L ++ [(s, c)]).map (·.1)).Nodup) := by
        show List.Nodup _
        rw [List.map_append]
        refine List.pairwise_append.2 ⟨HN.out, by simp, fun x hx y hy => ?_⟩
        simp only [List.map_cons, List.map_nil, List.mem_singleton] at hy
        subst hy
        obtain ⟨z, hz, rfl⟩ := List.mem_map.1 hx
        exact hnew z hz
      clear hm hnew hpa hra hit hsn
      go_wp2_with fail
      go_roundg k'
      case measure => omega
      case rel => exact ⟨L ++ [(s, c)], HIT.out, ⟨_, hpa3, by rw [toPL_snoc, scale_append, ← List.append_assoc]; exact hra3.out⟩, hU, HNN⟩
end Go.Proofs.Ytnefhokojbkppaa
