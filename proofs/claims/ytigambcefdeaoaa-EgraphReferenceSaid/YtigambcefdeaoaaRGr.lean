/-
  The reference's graph as it lies in memory; what its Find, Class and Classes do.
  What the reference graph's Lookup does.
  The reference's join, the block's whole content kept; a step recorded and two classes joined in the reference's graph.
  A step recorded and two classes joined in the reference's graph.
-/
import Derived.Test.YtigambcefdeaoaaGClA
import Derived.Test.YtigambcefdeaoaaRJoin
import Derived.Test.YtigambcefdeaoaaSNode
import Derived.Test.YtigambcefdeaoaaDrawn
import Derived.Test.YtigambcefdeaoaaAppF
namespace Go.Proofs.Ytigambcefdeaoaa
open Go.RowKit

def RowO (w : World) (A : Option Addr) (l : List Nat) : Prop := l = [] ∨ ∃ g, A = some ⟨g, 0, none⟩ ∧ Row w g l
theorem joinL_range (n : Nat) (c : Nat → Nat) (a b : Nat) : joinL ((List.range n).map c) (min (c a) (c b)) (max (c a) (c b)) = (List.range n).map (joinc c a b) := by
  unfold joinL joinc; rw [List.map_map]; rfl
/-- Where the parts of a reference graph lie. -/
structure RA where
  l : Option Addr
  lc : Nat
  t : Option Addr
  tc : Nat
  f : Option Addr
  fc : Nat
  s : Option Addr
  sc : Nat
def RA.cells (a : RA) (n m : Nat) : Array Value := #[.slice a.l n a.lc, .slice a.t m a.tc, .slice a.f n a.fc, .slice a.s n a.sc]

/-- Block rb is the reference graph G. -/
structure RM (w : World) (ρ : Nat → Role) (rb : Nat) (a : RA) (G : EG) : Prop where
  bnd : ∀ k, ρ k ≠ .no → k < w.heap.size
  me : ρ rb = .me
  blk : Blk w rb 61 (a.cells G.L.length G.T.length)
  l : GL w ρ a.l a.lc G.L
  s : GI w ρ .sorts a.s a.sc (sortsF G.L)
  f : GI w ρ .find a.f a.fc (clL G.L G.c)
  t : GT w ρ a.t a.tc G.T
/-- What an operation that writes leaves. -/
def RNext (w : World) (ρ : Nat → Role) (rb : Nat) (w' : World) (G : EG) : Prop := ∃ ρ' a', RM w' ρ' rb a' G ∧ Upd (fun k => ρ k ≠ .no ∧ ρ k ≠ .kids) w w' ∧ ∀ k, k < w.heap.size → ρ' k = ρ k
section
variable {w w' : World} {ρ : Nat → Role} {rb : Nat} {a : RA} {G : EG}
theorem RM.non (h : RM w ρ rb a G) (u : Upd Non w w') : RM w' ρ rb a G :=
  ⟨fun k hk => Nat.lt_of_lt_of_le (h.bnd k hk) u.size, h.me, h.blk.upd u (fun f => f), h.l.upd u (fun _ _ f => f.elim) (fun _ _ => rfl), h.s.upd u (fun _ _ f => f.elim) (fun _ _ => rfl), h.f.upd u (fun _ _ f => f.elim) (fun _ _ => rfl), h.t.upd u (fun _ _ f => f.elim) (fun _ _ => rfl)⟩
theorem RM.far {S : Nat → Prop} (h : RM w ρ rb a G) (u : Upd S w w') (d : ∀ k, S k → ρ k = .no) : RM w' ρ rb a G := by
  have d' : ∀ (r : Role), r ≠ .no → ∀ k, k < w.heap.size → S k → ρ k ≠ r := fun r hr k _ hS e => hr (by rw [← e]; exact d k hS)
  exact ⟨fun k hk => Nat.lt_of_lt_of_le (h.bnd k hk) u.size, h.me, h.blk.upd u (fun hS => by have := d rb hS; rw [h.me] at this; cases this), h.l.upd u (fun k hk hS => ⟨d' _ (by simp) k hk hS, d' _ (by simp) k hk hS⟩) (fun _ _ => rfl), h.s.upd u (d' _ (by simp)) (fun _ _ => rfl), h.f.upd u (d' _ (by simp)) (fun _ _ => rfl),
    h.t.upd u (fun k hk hS => ⟨d' _ (by simp) k hk hS, d' _ (by simp) k hk hS⟩) (fun _ _ => rfl)⟩
theorem RM.c0 (h : RM w ρ rb a G) : w.cell? ⟨rb, 0, none⟩ = some (.slice a.l G.L.length a.lc) := h.blk.cell 0
theorem RM.c1 (h : RM w ρ rb a G) : w.cell? ⟨rb, 1, none⟩ = some (.slice a.t G.T.length a.tc) := h.blk.cell 1
theorem RM.c2 (h : RM w ρ rb a G) : w.cell? ⟨rb, 2, none⟩ = some (.slice a.f G.L.length a.fc) := h.blk.cell 2
theorem RM.c3 (h : RM w ρ rb a G) : w.cell? ⟨rb, 3, none⟩ = some (.slice a.s G.L.length a.sc) := h.blk.cell 3
theorem RM.fat (h : RM w ρ rb a G) {i : Nat} (hi : i < G.L.length) : ∃ b, a.f = some ⟨b, 0, none⟩ ∧ b < w.heap.size ∧ w.cell? ⟨b, i, none⟩ = some (.int .i64 (G.c i : Int)) := by
  have hl : (clL G.L G.c).length = G.L.length := clL_len _ _
  obtain ⟨b, e⟩ := h.f.1.some_ (by omega)
  have hf := h.f.1
  rw [e] at hf
  have hi' : i < (icells (clL G.L G.c)).length := by simp [icells, clL]; omega
  have hc := hf.cell_ hi'
  refine ⟨b, e, World.block_lt_of_cell? _ _ hc, ?_⟩
  rw [hc]
  simp [icells, clL]
theorem RM.lv (h : RM w ρ rb a G) : NodesV w (fun k => ρ k = .nodes ∨ ρ k = .kids) a.l G.L := by
  obtain ⟨cs, h1, h2, h3⟩ := h.l
  refine NodesO.view (G := fun k => ρ k = .kids) (n := G.L.length) (c := a.lc) ⟨rfl, cs, h1, h2.mono (Upd.refl (S := Non)) (fun _ _ _ f => f) (fun k _ hk => ⟨hk, fun hA => ?_⟩)⟩ (fun k hk => .inl (h3 k hk)) (fun k _ hk => .inr hk)
  have := h3 k hA
  rw [hk] at this
  cases this
theorem row_of_gi {A : Option Addr} {n cc : Nat} {c : Nat → Nat} (h : Own w 3 1 A n cc (icells ((List.range n).map fun k => (c k : Int)))) : RowO w A ((List.range n).map c) := by
  rcases h.cases with ⟨_, rfl, _, _⟩ | ⟨g, cur, rfl, hb, _, _, _, ht⟩
  · exact .inl rfl
  · refine .inr ⟨g, rfl, (cur.toList.drop n).toArray, ?_⟩
    have : cur = ints ((List.range n).map c) ++ (cur.toList.drop n).toArray := by
      apply Array.toList_inj.1
      rw [Nat.mul_one] at ht
      simp only [ints, Array.toList_append]
      rw [show ((List.range n).map c).map (fun (x : Nat) => Value.int .i64 (x : Int)) = cur.toList.take n from by rw [ht]; simp [icells, List.map_map, Function.comp_def]]
      exact (List.take_append_drop n cur.toList).symm
    rw [← this]; exact hb
theorem RM.row (h : RM w ρ rb a G) : RowO w a.f ((List.range G.L.length).map G.c) := row_of_gi (by have := h.f.1; rw [clL_len] at this; exact this)
end

set_option maxHeartbeats 400000 in
theorem rFind_c (w : World) (ρ : Nat → Role) (rb : Nat) (a : RA) (G : EG) (h : RM w ρ rb a G) (i : Int) :
    Calls Try.prog 58 #[gp rb, .int .i64 i] w fun e w' => e = .returned (.int .i64 (findF G i)) ∧ w = w' := by
  have c2 := h.c2
  unfold gp
  by_cases hi : 0 ≤ i
  · obtain ⟨k, rfl⟩ := Int.eq_ofNat_of_zero_le hi
    have t1 : decide ((k : Int) < 0) = false := by simp
    by_cases hk : k < G.L.length
    · have HF : Hid (findF G (k : Int) = (G.c k : Int)) := by show _ = _; unfold findF; rw [if_pos ⟨by omega, by omega⟩]; simp
      obtain ⟨b, e, hb, hc⟩ := h.fat hk
      rw [e] at c2
      generalize G.c k = x at *
      clear hi h
      go_enter Try.func58, Try.ntmps58
      go_wp2_with fail
      go_ret
      exact ⟨by rw [HF.out]; rfl, rfl⟩
    · have HF : Hid (findF G (k : Int) = -1) := by show _ = _; unfold findF; rw [if_neg (by omega)]
      clear hi h
      go_enter Try.func58, Try.ntmps58
      go_wp2_with fail
      go_ret
      exact ⟨by rw [HF.out]; rfl, rfl⟩
  · have HF : Hid (findF G i = -1) := by show _ = _; unfold findF; rw [if_neg (by omega)]
    clear h
    go_enter Try.func58, Try.ntmps58
    go_wp2_with fail
    go_ret
    exact ⟨by rw [HF.out]; rfl, rfl⟩

set_option maxRecDepth 100000 in
set_option maxHeartbeats 1000000 in
theorem rClasses_c (w : World) (ρ : Nat → Role) (rb : Nat) (a : RA) (G : EG) (h : RM w ρ rb a G) (hn : G.L.length ≤ 2000) :
    Calls Try.prog 59 #[gp rb] w fun e w' => ∃ A c, e = .returned (.slice A (classesTo G.c G.L.length).length c) ∧ Own w' 3 1 A (classesTo G.c G.L.length).length c (icells (classesTo G.c G.L.length)) ∧ (∀ k, At A k → w.heap.size ≤ k) ∧ Upd Non w w' := by
  have H := Lib.hid h
  have c2 := h.c2
  have hgb := h.blk.lt
  obtain ⟨n, Hn⟩ := nm G.L.length
  rw [Hn.out] at c2 hn ⊢
  obtain ⟨fA, HfA⟩ := nm a.f
  rw [HfA.out] at c2
  unfold gp
  clear h
  go_enter Try.func59, Try.ntmps59
  go_wp2_with fail
  go_loopg [3, 4] n (fun g v i wr => ∃ (k m c : Nat) (A : Option Addr), Hid (g = n - k) ∧ k ≤ n ∧ i = .int .i64 k ∧ v = .slice A m c ∧ Hid (m = (classesTo G.c k).length) ∧ m ≤ k ∧ Own wr 3 1 A m c (icells (classesTo G.c k)) ∧ Hid (∀ j, At A j → w.heap.size ≤ j) ∧ Upd Non w wr)
  case atStart => exact ⟨0, 0, 0, none, rfl, by omega, rfl, rfl, rfl, by omega, Own.none_, fun j hj => (At.none_ hj).elim, Upd.refl⟩
  case round =>
    obtain ⟨k, m, c, A, Hg, hk, rfl, rfl, Hm, hm, ho, HA, hu⟩ := hrel
    have c2' := cell_upd c2 hu (fun f => f)
    by_cases hlt : k < n
    · have hkL : k < G.L.length := by rw [Hn.out]; exact hlt
      have hM := H.out.non hu
      obtain ⟨fb, ef, hfb, hcx⟩ := hM.fat hkL
      have HS := Lib.hid (classesTo_succ G.c k)
      rw [HfA.out] at ef
      subst ef
      clear hM c2
      by_cases hc : G.c k = k
      · rw [if_pos hc] at HS
        rw [hc] at hcx
        have t1 : ((k : Int) == (k : Int)) = true := by simp
        clear hc
        go_wp2_with (at_builtin; refine wpList_app rfl rfl T_ints' rfl (ho.alloc _) rfl (Sl.new _ _ _) rfl (by simp [Value.oneCell']) (by simp only [maxLen]; omega) (by omega) ?_; intro A3 c3 w3 ho3 hu3 hat3)
        go_roundg (n - (k + 1))
        case measure => rw [Hg.out]; omega
        case rel =>
          refine ⟨k + 1, m + 1, c3, A3, rfl, by omega, by go_num, rfl, by show _ = _; rw [HS.out, Hm.out]; simp, by omega, by rw [HS.out, icells_snoc]; exact ho3, fun j hj => ?_, (hu.alloc _).trans hu3 (fun i hi h => by have := HA.out i h; omega)⟩
          rcases hat3 j hj with h | h
          · exact HA.out j h
          · have := hu.size; simp at h; omega
      · rw [if_neg hc] at HS
        have t1 : ((G.c k : Int) == (k : Int)) = false := by simp; omega
        generalize G.c k = x at *
        clear hc
        go_wp2_with fail
        go_roundg (n - (k + 1))
        case measure => rw [Hg.out]; omega
        case rel => exact ⟨k + 1, m, c, A, rfl, by omega, by go_num, rfl, by show _ = _; rw [HS.out, Hm.out], by omega, by rw [HS.out]; exact ho, HA, hu⟩
    · obtain rfl : n = k := by omega
      clear c2
      go_wp2_with fail
      go_ret
      exact ⟨A, c, by rw [← Hm.out]; rfl, by rw [← Hm.out]; exact ho, HA.out, hu⟩

def memTo (c : Nat → Nat) (x k : Nat) : List Int := memL k c x
theorem memTo_succ (c : Nat → Nat) (x k : Nat) : memTo c x (k + 1) = if c k = x then memTo c x k ++ [(k : Int)] else memTo c x k := by
  unfold memTo memL
  rw [List.range_succ, List.filter_append, List.map_append]
  by_cases h : c k = x
  · rw [if_pos h]; simp [h]
  · rw [if_neg h]; simp [h]

set_option maxRecDepth 100000 in
set_option maxHeartbeats 1000000 in
theorem rClass_c (w : World) (ρ : Nat → Role) (rb : Nat) (a : RA) (G : EG) (h : RM w ρ rb a G) (hn : G.L.length ≤ 2000) (i : Int) :
    Calls Try.prog 60 #[gp rb, .int .i64 i] w fun e w' => ∃ A c, e = .returned (.slice A (classF G i).length c) ∧ Own w' 3 1 A (classF G i).length c (icells (classF G i)) ∧ (∀ k, At A k → w.heap.size ≤ k) ∧ Upd Non w w' := by
  have C1 := Lib.hid (rFind_c w ρ rb a G h i)
  have H := Lib.hid h
  have c2 := h.c2
  have hgb := h.blk.lt
  obtain ⟨n, Hn⟩ := nm G.L.length
  obtain ⟨fA, HfA⟩ := nm a.f
  unfold gp at *
  by_cases hi : 0 ≤ i ∧ i < G.L.length
  · have HF : Hid (classF G i = memTo G.c (G.c i.toNat) n) := by show _ = _; unfold classF memTo; rw [if_pos hi, Hn.out]
    have hf : findF G i = (G.c i.toNat : Int) := by unfold findF; rw [if_pos hi]
    rw [hf] at C1
    rw [HF.out]
    generalize G.c i.toNat = x at *
    rw [Hn.out] at c2 hn
    rw [HfA.out] at c2
    have tx : decide ((x : Int) ≥ 0) = true := by simp
    clear h hi hf
    go_enter Try.func60, Try.ntmps60
    go_wp2_with fail
    refine C1.out.mono ?_
    rintro e w' ⟨rfl, rfl⟩
    go_wp2_with fail
    go_loopg [5, 7] n (fun g v i wr => ∃ (k m c : Nat) (A : Option Addr), Hid (g = n - k) ∧ k ≤ n ∧ i = .int .i64 k ∧ v = .slice A m c ∧ Hid (m = (memTo G.c x k).length) ∧ m ≤ k ∧ Own wr 3 1 A m c (icells (memTo G.c x k)) ∧ Hid (∀ j, At A j → w.heap.size ≤ j) ∧ Upd Non w wr)
    case atStart => exact ⟨0, 0, 0, none, rfl, by omega, rfl, rfl, rfl, by omega, Own.none_, fun j hj => (At.none_ hj).elim, Upd.refl⟩
    case round =>
      obtain ⟨k, m, c, A, Hg, hk, rfl, rfl, Hm, hm, ho, HA, hu⟩ := hrel
      have c2' := cell_upd c2 hu (fun f => f)
      by_cases hlt : k < n
      · have hkL : k < G.L.length := by rw [Hn.out]; exact hlt
        have hM := H.out.non hu
        obtain ⟨fb, ef, hfb, hcx⟩ := hM.fat hkL
        have HS := Lib.hid (memTo_succ G.c x k)
        rw [HfA.out] at ef
        subst ef
        clear hM c2
        by_cases hc : G.c k = x
        · rw [if_pos hc] at HS
          rw [hc] at hcx
          have t1 : ((x : Int) == (x : Int)) = true := by simp
          clear hc
          go_wp2_with (at_builtin; refine wpList_app rfl rfl T_ints' rfl (ho.alloc _) rfl (Sl.new _ _ _) rfl (by simp [Value.oneCell']) (by simp only [maxLen]; omega) (by omega) ?_; intro A3 c3 w3 ho3 hu3 hat3)
          go_roundg (n - (k + 1))
          case measure => rw [Hg.out]; omega
          case rel =>
            refine ⟨k + 1, m + 1, c3, A3, rfl, by omega, by go_num, rfl, by show _ = _; rw [HS.out, Hm.out]; simp, by omega, by rw [HS.out, icells_snoc]; exact ho3, fun j hj => ?_, (hu.alloc _).trans hu3 (fun i hi h => by have := HA.out i h; omega)⟩
            rcases hat3 j hj with h | h
            · exact HA.out j h
            · have := hu.size; simp at h; omega
        · rw [if_neg hc] at HS
          have t1 : ((G.c k : Int) == (x : Int)) = false := by simp; omega
          generalize G.c k = y at *
          clear hc
          go_wp2_with fail
          go_roundg (n - (k + 1))
          case measure => rw [Hg.out]; omega
          case rel => exact ⟨k + 1, m, c, A, rfl, by omega, by go_num, rfl, by show _ = _; rw [HS.out, Hm.out], by omega, by rw [HS.out]; exact ho, HA, hu⟩
      · obtain rfl : n = k := by omega
        clear c2
        go_wp2_with fail
        go_ret
        exact ⟨A, c, by rw [← Hm.out]; rfl, by rw [← Hm.out]; exact ho, HA.out, hu⟩
  · have HF : Hid (classF G i = []) := by show _ = _; unfold classF; rw [if_neg hi]
    have hf : findF G i = -1 := by unfold findF; rw [if_neg hi]
    rw [hf] at C1
    rw [HF.out]
    rw [Hn.out] at c2 hn
    clear h hi hf
    go_enter Try.func60, Try.ntmps60
    go_wp2_with fail
    refine C1.out.mono ?_
    rintro e w' ⟨rfl, rfl⟩
    go_wp2_with fail
    go_loopg [5, 7] 0 (fun g v i wr => v = .slice none 0 0 ∧ i = .int .i64 0 ∧ Upd Non w wr)
    case atStart => exact ⟨rfl, rfl, Upd.refl⟩
    case round =>
      obtain ⟨rfl, rfl, hu⟩ := hrel
      have c2' := cell_upd c2 hu (fun f => f)
      clear c2
      by_cases h0 : n = 0
      · subst h0
        go_wp2_with fail
        go_ret
        exact ⟨none, 0, rfl, Own.none_, fun j hj => (At.none_ hj).elim, hu⟩
      · have t1 : (0 : Int) < (n : Int) := by omega
        go_wp2_with fail
        go_ret
        exact ⟨none, 0, rfl, Own.none_, fun j hj => (At.none_ hj).elim, hu⟩
end Go.Proofs.Ytigambcefdeaoaa

namespace Go.Proofs.Ytigambcefdeaoaa
open Go.RowKit

/-- The first of k nodes that is the node nd. -/
def lookF (L : List Nd) (nd : Nd) (k : Nat) : Option Nat := (List.range k).find? fun i => sameNd (L.getD i nd0) nd
def lookI (L : List Nd) (nd : Nd) : Int := match lookF L nd L.length with
  | some i => (i : Int)
  | none => -1
theorem lookF_no {L : List Nd} {nd : Nd} {k : Nat} (h : lookF L nd k = none) (hs : sameNd (L.getD k nd0) nd = false) : lookF L nd (k + 1) = none := by
  unfold lookF at *
  rw [List.range_succ, List.find?_append, h, Option.none_or, List.find?_cons_of_neg (by rw [hs]; simp)]
  rfl
theorem lookF_yes {L : List Nd} {nd : Nd} {k : Nat} (hk : k < L.length) (h : lookF L nd k = none) (hs : sameNd (L.getD k nd0) nd = true) : lookI L nd = (k : Int) := by
  have : lookF L nd L.length = some k := by
    unfold lookF at *
    exact find_range.2 ⟨hk, hs, fun q hq => find_range_none.1 h q hq⟩
  unfold lookI
  rw [this]

set_option maxRecDepth 100000 in
set_option maxHeartbeats 1000000 in
theorem rLookup_c (w : World) (ρ : Nat → Role) (rb : Nat) (a : RA) (G : EG) (h : RM w ρ rb a G) (hn : G.L.length ≤ 2000) (hkl : ∀ nd ∈ G.L, nd.kids.length ≤ 100000) (F : Nat → Prop) (op imm : Int) (kids : List Int) (KB : Option Addr) (kd : Nat) (hkj : Ints w F KB kids) :
    Calls Try.prog 54 #[gp rb, .agg #[.int .i64 op, .int .i64 imm, .slice KB kids.length kd]] w fun e w' => e = .returned (.int .i64 (lookI G.L ⟨op, imm, kids⟩)) ∧ Upd Non w w' := by
  have H := Lib.hid h
  have HK := Lib.hid hkl
  have c0 := h.c0
  have hrb := h.blk.lt
  obtain ⟨W, HW⟩ := nm (w.alloc (.cells #[.int .i64 op, .int .i64 imm, .slice KB kids.length kd] 24))
  have hU : Upd Non w W := by rw [← HW.out]; exact Upd.refl.alloc _
  have b1 : Blk W w.heap.size 24 #[.int .i64 op, .int .i64 imm, .slice KB kids.length kd] := by rw [← HW.out]; exact Blk.new w _ _
  have e0 := HW.out
  have hkW := hkj.upd hU (fun _ _ _ f => f)
  clear h hkl hkj
  unfold gp
  go_enter Try.func54, Try.ntmps54
  go_wp2_with fail
  go_loopg [5] G.L.length (fun g i wr => ∃ k : Nat, Hid (g = G.L.length - k) ∧ k ≤ G.L.length ∧ i = .int .i64 k ∧ Hid (lookF G.L ⟨op, imm, kids⟩ k = none) ∧ Upd Non W wr)
  case atStart => exact ⟨0, rfl, by omega, rfl, rfl, Upd.refl⟩
  case round =>
    obtain ⟨k, Hg, hk, rfl, HL, hu⟩ := hrel
    have hUr := hU.then_non hu
    have c0' := cell_upd c0 hUr (fun f => f)
    by_cases hlt : k < G.L.length
    · have hM := H.out.non hUr
      obtain ⟨lb, lo, ea, _, hlb, n1, n2, KA, kc, n3, hkc, hki⟩ := hM.lv.at_ hlt
      have hkl := HK.out _ (List.getElem_mem hlt)
      rw [ea] at c0'
      have C1 := Lib.hid (sameNode_c wr.drew _ _ G.L[k] ⟨op, imm, kids⟩ KA KB kc kd (hki.upd (Upd.refl.drew (S := Non)) (fun _ _ _ f => f)) ((hkW.upd hu (fun _ _ _ f => f)).upd (Upd.refl.drew (S := Non)) (fun _ _ _ f => f)) (by omega))
      have HN := Lib.hid (fun hs => @lookF_no G.L ⟨op, imm, kids⟩ k HL.out hs)
      have HY := Lib.hid (fun hs => @lookF_yes G.L ⟨op, imm, kids⟩ k hlt HL.out hs)
      rw [getD_of hlt] at HN HY
      generalize G.L[k] = nd at *
      obtain ⟨b, Hb⟩ := nm (sameNd nd ⟨op, imm, kids⟩)
      rw [Hb.out] at C1 HN HY
      have b1r := b1.upd hu (fun f => f)
      have s0 : wr.drew.cell? ⟨rb, 0, none⟩ = some (.slice (some ⟨lb, lo, none⟩) G.L.length a.lc) := c0'
      have s1 : wr.drew.cell? ⟨lb, lo + k * 3, none⟩ = some (.int .i64 nd.op) := n1
      have s2 : wr.drew.cell? ⟨lb, lo + k * 3 + 1, none⟩ = some (.int .i64 nd.imm) := n2
      have s3 : wr.drew.cell? ⟨lb, lo + k * 3 + 2, none⟩ = some (.slice KA nd.kids.length kc) := n3
      have s4 : wr.drew.cell? ⟨w.heap.size, 0, none⟩ = some (.int .i64 op) := b1r.cell 0
      have s5 : wr.drew.cell? ⟨w.heap.size, 1, none⟩ = some (.int .i64 imm) := b1r.cell 1
      have s6 : wr.drew.cell? ⟨w.heap.size, 2, none⟩ = some (.slice KB kids.length kd) := b1r.cell 2
      have i0 : (0 : Int) ≤ (k : Int) := by omega
      have i1 : (k : Int) < (G.L.length : Int) := by omega
      clear c0
      go_wp2_with fail
      refine wp_region_held_drew (S := fun w' => w'.cell? ⟨rb, 0, none⟩ = some (.slice (some ⟨lb, lo, none⟩) G.L.length a.lc) ∧ w'.cell? ⟨lb, lo + k * 3, none⟩ = some (.int .i64 nd.op) ∧ w'.cell? ⟨lb, lo + k * 3 + 1, none⟩ = some (.int .i64 nd.imm) ∧ w'.cell? ⟨lb, lo + k * 3 + 2, none⟩ = some (.slice KA nd.kids.length kc) ∧ w'.cell? ⟨w.heap.size, 0, none⟩ = some (.int .i64 op) ∧ w'.cell? ⟨w.heap.size, 1, none⟩ = some (.int .i64 imm) ∧ w'.cell? ⟨w.heap.size, 2, none⟩ = some (.slice KB kids.length kd)) (by kernel_rfl) ⟨s0, s1, s2, s3, s4, s5, s6⟩ (fun hHeld => ?_)
      refine wpAnyH_take (i := 0) (v := ?_) rfl (by kernel_rfl) (by kernel_rfl) (by kernel_rfl) (fun _ _ _ h => h) (Or.inl ⟨by rfl, ?_⟩) (by assumption) ?_
      rotate_left
      · intro w hSw; (try dsimp only at hSw); go_simp; try with_reducible rfl
      try simp only [put_y]
      try simp only [Act.put]
      try simp only [put_z]
      refine wpAnyH_take (i := 1) (v := ?_) rfl (by kernel_rfl) (by kernel_rfl) (by kernel_rfl) (fun _ _ _ h => h) (Or.inl ⟨by rfl, ?_⟩) (by assumption) ?_
      rotate_left
      · intro w hSw; (try dsimp only at hSw); go_simp; try with_reducible rfl
      try simp only [put_y]
      try simp only [Act.put]
      try simp only [put_z]
      refine wpAnyH_take (i := 2) (v := ?_) rfl (by kernel_rfl) (by kernel_rfl) (by kernel_rfl) (fun _ _ _ h => h) (Or.inl ⟨by rfl, ?_⟩) (by assumption) ?_
      rotate_left
      · intro w hSw; (try dsimp only at hSw); go_simp; try with_reducible rfl
      try simp only [put_y]
      try simp only [Act.put]
      try simp only [put_z]
      refine wpAnyH_take (i := 3) (v := ?_) rfl (by kernel_rfl) (by kernel_rfl) (by kernel_rfl) (fun _ _ _ h => h) (Or.inl ⟨by rfl, ?_⟩) (by assumption) ?_
      rotate_left
      · intro w hSw; (try dsimp only at hSw); go_simp; try with_reducible rfl
      try simp only [put_y]
      try simp only [Act.put]
      try simp only [put_z]
      refine wpAnyH_take (i := 4) (v := ?_) rfl (by kernel_rfl) (by kernel_rfl) (by kernel_rfl) (fun _ _ _ h => h) (Or.inl ⟨by rfl, ?_⟩) (by assumption) ?_
      rotate_left
      · intro w hSw; (try dsimp only at hSw); go_simp; try with_reducible rfl
      try simp only [put_y]
      try simp only [Act.put]
      try simp only [put_z]
      refine wpAnyH_take (i := 5) (v := ?_) rfl (by kernel_rfl) (by kernel_rfl) (by kernel_rfl) (fun _ _ _ h => h) (Or.inl ⟨by rfl, ?_⟩) (by assumption) ?_
      rotate_left
      · intro w hSw; (try dsimp only at hSw); go_simp; try with_reducible rfl
      try simp only [put_y]
      try simp only [Act.put]
      try simp only [put_z]
      refine wpAnyH_take (i := 6) (v := ?_) rfl (by kernel_rfl) (by kernel_rfl) (by kernel_rfl) (fun _ _ _ h => h) (Or.inl ⟨by rfl, ?_⟩) (by assumption) ?_
      rotate_left
      · intro w hSw; (try dsimp only at hSw); go_simp; try with_reducible rfl
      try simp only [put_y]
      try simp only [Act.put]
      try simp only [put_z]
      refine wpAnyH_take (i := 7) (v := ?_) rfl (by kernel_rfl) (by kernel_rfl) (by kernel_rfl) (fun _ _ _ h => h) (Or.inl ⟨by rfl, ?_⟩) (by assumption) ?_
      rotate_left
      · intro w hSw; (try dsimp only at hSw); go_simp; try with_reducible rfl
      try simp only [put_y]
      try simp only [Act.put]
      try simp only [put_z]
      refine wpAnyH_ready (rs := [8]) (by kernel_rfl) (by simp) ?_
      refine AllReadyH.cons rfl (fun K hK => ?_) AllReadyH.nil
      go_simp
      refine C1.out.mono ?_
      rintro e w1 ⟨rfl, hu1'⟩
      have hu1 : Upd Non wr w1 := Upd.refl.drew.then_non hu1'
      go_wp2_with fail
      refine hK.out _ _ ?_ (fun hHeld => ?_)
      · exact ⟨cell_upd c0' hu1 (fun f => f), cell_upd n1 hu1 (fun f => f), cell_upd n2 hu1 (fun f => f), cell_upd n3 hu1 (fun f => f), cell_upd (b1r.cell 0) hu1 (fun f => f), cell_upd (b1r.cell 1) hu1 (fun f => f), cell_upd (b1r.cell 2) hu1 (fun f => f)⟩
      clear hK K
      try simp only [put_y]
      try simp only [Act.put]
      try simp only [put_z]
      refine wpAnyH_done (by kernel_rfl) ?_ _
      cases b with
      | true =>
        have HR := Lib.hid (HY.out rfl)
        clear HY HN
        go_wp2_with fail
        go_ret
        exact ⟨by rw [HR.out]; rfl, hUr.then_non hu1⟩
      | false =>
        have HR := Lib.hid (HN.out rfl)
        clear HY HN
        go_wp2_with fail
        go_roundg (G.L.length - (k + 1))
        case measure => rw [Hg.out]; omega
        case rel => exact ⟨k + 1, rfl, by omega, by go_num, HR, hu.then_non hu1⟩
    · obtain rfl : G.L.length = k := by omega
      have HR : Hid (lookI G.L ⟨op, imm, kids⟩ = -1) := by show _ = _; unfold lookI; rw [HL.out]
      clear c0
      go_wp2_with fail
      go_ret
      exact ⟨by rw [HR.out]; rfl, hUr⟩
end Go.Proofs.Ytigambcefdeaoaa

namespace Go.Proofs.Ytigambcefdeaoaa
open Go.RowKit

/-- Block g holds the numbers l, and x behind them. -/
def RowE (w : World) (g : Nat) (x : Array Value) (l : List Nat) : Prop := Blk w g 3 (ints l ++ x)
section
variable {w w' : World} {g : Nat} {x : Array Value} {l : List Nat}
theorem RowE.cell (h : RowE w g x l) {k : Nat} (hk : k < l.length) : w.cell? ⟨g, k, none⟩ = some (.int .i64 (l[k] : Nat)) := Row.cell ⟨x, h⟩ hk
theorem RowE.frozen (h : RowE w g x l) (k : Nat) : w.frozen? ⟨g, k, none⟩ = false := Row.frozen ⟨x, h⟩ k
theorem RowE.set_ (h : RowE w g x l) {k : Nat} (hk : k < l.length) (y : Nat) : RowE (w.setCell ⟨g, k, none⟩ (.int .i64 (y : Nat))) g x (l.set k y) := by
  have := Blk.set_ h k (.int .i64 (y : Nat))
  rw [Array.setIfInBounds_append_left (by simpa [ints] using hk), ints_set] at this
  exact this
end

set_option maxHeartbeats 1000000 in
theorem joinE_c (g a b cc : Nat) (w : World) (l : List Nat) (x0 : Array Value) (ha : a < l.length) (hb : b < l.length) (hl : l.length ≤ 1000000) (hr : RowE w g x0 l) :
    Calls Try.prog 56 #[.slice (some ⟨g, 0, none⟩) l.length cc, .int .i64 a, .int .i64 b] w fun e w' =>
      e = .returned (.tuple #[]) ∧ RowE w' g x0 (joinL l (min l[a] l[b]) (max l[a] l[b])) ∧ Upd (· = g) w w' := by
  have ca := hr.cell ha
  have cb := hr.cell hb
  obtain ⟨x, Hx⟩ : ∃ x, Hid (l[a] = x) := nm _
  obtain ⟨y, Hy⟩ : ∃ y, Hid (l[b] = y) := nm _
  obtain ⟨lo, Hlo⟩ : ∃ lo, Hid (min x y = lo) := ⟨_, rfl⟩
  obtain ⟨hi, Hhi⟩ : ∃ hi, Hid (max x y = hi) := ⟨_, rfl⟩
  rw [Hx.out] at ca ⊢
  rw [Hy.out] at cb ⊢
  rw [Hlo.out, Hhi.out]
  have hmin : (if y < x then (y : Int) else (x : Int)) = (lo : Int) := by rw [← Hlo.out]; split <;> omega
  have hmax : (if x < y then (y : Int) else (x : Int)) = (hi : Int) := by rw [← Hhi.out]; split <;> omega
  go_enter Try.func56, Try.ntmps56
  go_wp2_with fail
  go_quiet (fail)
  go_wp2_with fail
  go_quiet (fail)
  clear ca cb
  go_wp2_with fail
  go_loopg [8] l.length (fun g' i wr => ∃ k : Nat, Hid (g' = l.length - k) ∧ k ≤ l.length ∧ i = .int .i64 k ∧ RowE wr g x0 (joinTo l lo hi k) ∧ Upd (· = g) w wr)
  case atStart => exact ⟨0, rfl, by omega, rfl, by rw [joinTo_zero]; exact hr, (Upd.refl.drewN _).drewN _⟩
  case round =>
    obtain ⟨k, Hg, hk, rfl, hr2, hu⟩ := hrel
    clear hmin hmax
    by_cases hlt : k < l.length
    · have hk2 : k < (joinTo l lo hi k).length := by rw [joinTo_len]; exact hlt
      have c1 := hr2.cell hk2
      rw [joinTo_get l lo hi k hlt] at c1
      have c2 := hr2.frozen k
      by_cases he : l[k] = hi
      · have hr3 := hr2.set_ hk2 lo
        rw [← joinTo_succ_eq l lo hi k hlt he] at hr3
        rw [he] at c1
        have hu2 := hu.setCell (p := ⟨g, k, none⟩) (.inl rfl) (.int .i64 (lo : Nat))
        clear he
        go_wp2_with fail
        go_roundg (l.length - (k + 1))
        case measure => rw [Hg.out]; omega
        case rel => exact ⟨k + 1, rfl, by omega, by go_num, hr3, hu2⟩
      · have hr3 := hr2
        rw [← joinTo_succ_ne l lo hi k hlt he] at hr3
        have hbe : (((l[k] : Nat) : Int) == (hi : Int)) = false := by simp; omega
        clear he
        go_wp2_with fail
        go_roundg (l.length - (k + 1))
        case measure => rw [Hg.out]; omega
        case rel => exact ⟨k + 1, rfl, by omega, by go_num, hr3, hu⟩
    · obtain rfl : l.length = k := by omega
      rw [joinTo_all] at hr2
      go_wp2_with fail
      go_end0
      exact ⟨rfl, hr2, hu⟩


def clsN (n : Nat) (c : Nat → Nat) : List Int := (List.range n).map fun k => (c k : Int)
theorem clL_cls (L : List Nd) (c : Nat → Nat) : clL L c = clsN L.length c := rfl
theorem joinO_c (w : World) (A : Option Addr) (n cc : Nat) (c : Nat → Nat) (a b : Nat) (ha : a < n) (hb : b < n) (hn : n ≤ 1000000) (ho : Own w 3 1 A n cc (icells (clsN n c))) :
    Calls Try.prog 56 #[.slice A n cc, .int .i64 a, .int .i64 b] w fun e w' => e = .returned (.tuple #[]) ∧ Own w' 3 1 A n cc (icells (clsN n (joinc c a b))) ∧ Upd (At A) w w' := by
  rcases ho.cases with ⟨_, rfl, _, _⟩ | ⟨g, cur, rfl, hbk, h1, h2, h3, ht⟩
  · omega
  · have hE : cur = ints ((List.range n).map c) ++ (cur.toList.drop n).toArray := by
      apply Array.toList_inj.1
      rw [Nat.mul_one] at ht
      simp only [ints, Array.toList_append]
      rw [show ((List.range n).map c).map (fun (x : Nat) => Value.int .i64 (x : Int)) = cur.toList.take n from by rw [ht]; simp [icells, clsN, List.map_map, Function.comp_def]]
      exact (List.take_append_drop n cur.toList).symm
    obtain ⟨x, Hx⟩ := nm (cur.toList.drop n).toArray
    rw [Hx.out] at hE
    have hsz : x.size = cc - n := by rw [← Hx.out]; simp; omega
    rw [hE] at hbk
    have hl : ((List.range n).map c).length = n := by simp
    have C := joinE_c g a b cc w ((List.range n).map c) x (by rw [hl]; exact ha) (by rw [hl]; exact hb) (by rw [hl]; exact hn) hbk
    simp only [List.getElem_map, List.getElem_range] at C
    rw [hl] at C
    refine C.mono fun e w' ⟨he, hr, hu⟩ => ⟨he, ?_, hu.mono (fun k _ hk => At.some_.2 hk)⟩
    rw [joinL_range] at hr
    refine Own.mk_ hr h1 h2 ?_ ?_
    · simp [ints, hsz]; omega
    · simp [ints, icells, clsN, List.map_map, Function.comp_def]
end Go.Proofs.Ytigambcefdeaoaa

namespace Go.Proofs.Ytigambcefdeaoaa
open Go.RowKit

theorem RM.merge {w w1 : World} {ρ : Nat → Role} {rb : Nat} {a : RA} {G : EG} (h : RM w ρ rb a G) {s : Stp} {c' : Nat → Nat} {A3 : Option Addr} {c3 : Nat} {cs : List Value} {VA MA : Option Addr} {vc mc : Nat} {V : Nat → Prop}
    (hcs : StepCells w (fun k => ρ k = .vars) cs G.T) (hts : ∀ k, At a.t k → ρ k = .steps)
    (hb : Blk w1 rb 61 #[.slice a.l G.L.length a.lc, .slice A3 (G.T.length + 1) c3, .slice a.f G.L.length a.fc, .slice a.s G.L.length a.sc])
    (hT : Own w1 34 5 A3 (G.T.length + 1) c3 (cs ++ stpCells s VA MA vc mc)) (hf : Own w1 3 1 a.f G.L.length a.fc (icells (clsN G.L.length c')))
    (u : Upd (fun k => k = rb ∨ At a.t k ∨ At a.f k) w w1) (hA3 : ∀ k, At A3 k → At a.t k ∨ (w.heap.size ≤ k ∧ ¬ V k)) (hV : ∀ k, V k → w.heap.size ≤ k ∧ k < w1.heap.size)
    (hv : Ints w1 V VA s.vars) (hm : Ints w1 V MA s.imms) (hvc : s.vars.length ≤ vc) (hmc : s.imms.length ≤ mc) : RNext w ρ rb w1 ⟨G.L, c', G.T ++ [s]⟩ := by
  classical
  have hme := h.me
  have hfs := h.f.2
  have hS : ∀ k, (k = rb ∨ At a.t k ∨ At a.f k) → ρ k = .me ∨ ρ k = .steps ∨ ρ k = .find := fun k hk => by
    rcases hk with rfl | hk | hk
    · exact .inl hme
    · exact .inr (.inl (hts k hk))
    · exact .inr (.inr (hfs k hk))
  have hne : ∀ (r : Role), r ≠ .me → r ≠ .steps → r ≠ .find → ∀ k, (k = rb ∨ At a.t k ∨ At a.f k) → ρ k ≠ r := fun r h1 h2 h3 k hk e => by
    rcases hS k hk with q | q | q
    · exact h1 (by rw [← e, q])
    · exact h2 (by rw [← e, q])
    · exact h3 (by rw [← e, q])
  obtain ⟨ρ', Hρ⟩ : ∃ ρ' : Nat → Role, ρ' = fun k => if k < w.heap.size then ρ k else if At A3 k then .steps else if V k then .vars else .no := ⟨_, rfl⟩
  have old : ∀ k, k < w.heap.size → ρ' k = ρ k := fun k hk => by rw [Hρ]; exact if_pos hk
  have hst : ∀ k, At A3 k → ρ' k = .steps := fun k hk => by
    by_cases q : k < w.heap.size
    · rw [old k q]
      rcases hA3 k hk with e | e
      · exact hts k e
      · omega
    · rw [Hρ]; dsimp only; rw [if_neg q, if_pos hk]
  have hvr : ∀ k, V k → ρ' k = .vars := fun k hk => by
    have h1 := hV k hk
    have h2 : ¬ At A3 k := fun e => by
      rcases hA3 k e with q | q
      · have := h.bnd k (by rw [hts k q]; simp); omega
      · exact q.2 hk
    rw [Hρ]; dsimp only; rw [if_neg (by omega), if_neg h2, if_pos hk]
  have hu := u.size
  have hrb := h.bnd rb (by rw [hme]; simp)
  refine ⟨ρ', ⟨a.l, a.lc, A3, c3, a.f, a.fc, a.s, a.sc⟩, ⟨fun k hk => ?_, by rw [old rb hrb]; exact hme, ?_, ?_, ?_, ⟨?_, fun k hk => ?_⟩, ?_⟩, u.mono (fun k _ hk => ⟨hne _ (by simp) (by simp) (by simp) k hk, hne _ (by simp) (by simp) (by simp) k hk⟩), old⟩
  · by_cases q : k < w.heap.size
    · omega
    · rw [Hρ] at hk
      dsimp only at hk
      rw [if_neg q] at hk
      by_cases e : At A3 k
      · exact hT.lt e
      · rw [if_neg e] at hk
        by_cases e2 : V k
        · exact (hV k e2).2
        · rw [if_neg e2] at hk; exact absurd rfl hk
  · unfold RA.cells; simpa using hb
  · exact h.l.upd u (fun k _ hk => ⟨hne _ (by simp) (by simp) (by simp) k hk, hne _ (by simp) (by simp) (by simp) k hk⟩) old
  · exact h.s.upd u (fun k _ hk => hne _ (by simp) (by simp) (by simp) k hk) old
  · rw [clL_cls]; rw [show (clsN G.L.length c').length = G.L.length by simp [clsN]]; exact hf
  · have := hfs k hk
    rw [old k (h.bnd k (by rw [this]; simp))]; exact this
  · refine ⟨cs ++ stpCells s VA MA vc mc, by simpa using hT, ?_, hst⟩
    exact (hcs.mono u (fun k _ hk hS => hne _ (by simp) (by simp) (by simp) k hS hk) (fun k hk e => by rw [old k hk]; exact e)).snoc (hv.mono (fun k _ hk => hvr k hk)) (hm.mono (fun k _ hk => hvr k hk)) hvc hmc
theorem RNext.same {w w' : World} {ρ : Nat → Role} {rb : Nat} {a : RA} {G : EG} (h : RM w ρ rb a G) (u : Upd Non w w') : RNext w ρ rb w' G := ⟨ρ, a, h.non u, u.mono (fun _ _ f => f.elim), fun _ _ => rfl⟩
theorem RNext.after {w w1 w' : World} {ρ : Nat → Role} {rb : Nat} {G : EG} (u : Upd Non w w1) (h : RNext w1 ρ rb w' G) : RNext w ρ rb w' G := by
  obtain ⟨ρ', a', h1, h2, h3⟩ := h
  exact ⟨ρ', a', h1, (u.mono (fun _ _ f => f.elim)).trans h2 (fun k _ hk => hk), fun k hk => h3 k (Nat.lt_of_lt_of_le hk u.size)⟩
theorem RNext.trans {w w1 w' : World} {ρ ρ1 : Nat → Role} {rb : Nat} {G : EG} (hu : Upd (fun k => ρ k ≠ .no ∧ ρ k ≠ .kids) w w1) (he : ∀ k, k < w.heap.size → ρ1 k = ρ k) (h : RNext w1 ρ1 rb w' G) : RNext w ρ rb w' G := by
  obtain ⟨ρ', a', h1, h2, h3⟩ := h
  have hs := hu.size
  exact ⟨ρ', a', h1, hu.trans h2 (fun k hk hn => by rw [he k hk] at hn; exact hn), fun k hk => by rw [h3 k (by omega)]; exact he k hk⟩
end Go.Proofs.Ytigambcefdeaoaa
