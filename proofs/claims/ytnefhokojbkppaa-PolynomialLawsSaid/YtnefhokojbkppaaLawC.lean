/-
  PolynomialLaws returns true.
-/
import Derived.Test.YtnefhokojbkppaaLawP
import Derived.Test.YtnefhokojbkppaaFct
namespace Go.Proofs.Ytnefhokojbkppaa
open Go.RowKit

def zero5 : Array Value := #[.int .i64 0, .int .i64 0, .int .i64 0, .int .i64 0, .slice none 0 0]
def IsPat (w : World) (v : Value) : Prop := ∃ p, PolyPt 3 p ∧ p.size ≤ 62 ∧ IsP w p v
def IsVar (n : Nat) (w : World) (v : Value) : Prop := ∃ b, v = .pointer (some ⟨b, 0, none⟩) ∧ n ≤ b ∧ Blk w b 24 zero5
theorem IsPat.upd {w w' : World} {v : Value} (h : IsPat w v) (u : Upd Non w w') : IsPat w' v := by
  obtain ⟨p, h1, h2, h3⟩ := h
  exact ⟨p, h1, h2, h3.upd u⟩
theorem IsVar.upd {n : Nat} {w w' : World} {v : Value} (h : IsVar n w v) (u : Upd Non w w') : IsVar n w' v := by
  obtain ⟨b, h1, h3, h2⟩ := h
  exact ⟨b, h1, h3, h2.upd u (fun f => f)⟩
theorem zero_nz {w : World} {b : Nat} (h : Blk w b 24 zero5) : ¬ NZ w b := by
  rintro ⟨o, x, h1, h2⟩
  rw [h.cell] at h1
  match o, h1 with
  | 0, h1 => injection h1 with h1; injection h1 with _ h1; exact h2 h1.symm
  | 1, h1 => injection h1 with h1; injection h1 with _ h1; exact h2 h1.symm
  | 2, h1 => injection h1 with h1; injection h1 with _ h1; exact h2 h1.symm
  | 3, h1 => injection h1 with h1; injection h1 with _ h1; exact h2 h1.symm
  | 4, h1 => injection h1 with h1; cases h1
  | n + 5, h1 => cases h1
theorem upd_at {g : Nat → Value} {d : Nat} {v : Value} : updG g (some d) v d = v := if_pos rfl
/-- The facts of the first region: three patterns, three variables. -/
def lV1 (n : Nat) (i : Nat) (g : Nat → Value) (w : World) : Prop :=
  match i with
  | 5 => IsPat w (g 23)
  | 11 => IsPat w (g 29)
  | 17 => IsPat w (g 35)
  | 18 => IsVar n w (g 9)
  | 19 => IsVar n w (g 10)
  | 20 => IsVar n w (g 11)
  | _ => True
def lS1 (i : Nat) : List Nat :=
  match i with
  | 5 => [23]
  | 11 => [29]
  | 17 => [35]
  | 18 => [9]
  | 19 => [10]
  | 20 => [11]
  | _ => []
def lO1 (i : Nat) (g : Nat → Value) (k : Nat) : Prop :=
  match i with
  | 18 => g 9 = .pointer (some ⟨k, 0, none⟩)
  | 19 => g 10 = .pointer (some ⟨k, 0, none⟩)
  | 20 => g 11 = .pointer (some ⟨k, 0, none⟩)
  | _ => False

def IsPair (w : World) (a b : Pt) (v : Value) : Prop := ∃ KA ka KB kb, v = .agg #[.int .i64 a.v, .int .i64 a.op, .int .i64 a.imm, .int .i64 a.iv, .slice KA a.kids.length ka, .int .i64 b.v, .int .i64 b.op, .int .i64 b.imm, .int .i64 b.iv, .slice KB b.kids.length kb] ∧ PtK w (fun _ => True) a KA ka ∧ PtK w (fun _ => True) b KB kb
theorem IsPair.upd {w w' : World} {a b : Pt} {v : Value} (h : IsPair w a b v) (u : Upd Non w w') : IsPair w' a b v := by
  obtain ⟨KA, ka, KB, kb, h1, h2, h3⟩ := h
  exact ⟨KA, ka, KB, kb, h1, PtK.upd u (fun _ _ _ f => f) _ _ _ h2, PtK.upd u (fun _ _ _ f => f) _ _ _ h3⟩
def IsSl1 (w : World) (q : Pt) (v : Value) : Prop := ∃ b, v = .slice (some ⟨b, 0, none⟩) 1 1 ∧ ∃ KQ kq, Blk w b 24 #[.int .i64 q.v, .int .i64 q.op, .int .i64 q.imm, .int .i64 q.iv, .slice KQ q.kids.length kq] ∧ PtK w (fun _ => True) q KQ kq
theorem IsSl1.upd {w w' : World} {q : Pt} {v : Value} (h : IsSl1 w q v) (u : Upd Non w w') : IsSl1 w' q v := by
  obtain ⟨b, h1, KQ, kq, h2, h3⟩ := h
  exact ⟨b, h1, KQ, kq, h2.upd u (fun f => f), PtK.upd u (fun _ _ _ f => f) _ _ _ h3⟩
theorem PtAt.upd' {w w' : World} {b o : Nat} {k : Pt} (h : PtAt w (fun _ => True) b o k) (u : Upd Non w w') : PtAt w' (fun _ => True) b o k := by
  obtain ⟨KA, kc, h0, h1, h2, h3, h4, h5⟩ := h
  exact ⟨KA, kc, cell_upd h0 u (fun f => f), cell_upd h1 u (fun f => f), cell_upd h2 u (fun f => f), cell_upd h3 u (fun f => f), cell_upd h4 u (fun f => f), PtK.upd u (fun _ _ _ f => f) _ _ _ h5⟩
def IsAll (w : World) (p q r : Pt) (v : Value) : Prop := ∃ b, v = .slice (some ⟨b, 0, none⟩) 6 6 ∧ ∀ i, i < 6 → PtAt w (fun _ => True) b (i * 10) (lhsP p q r i) ∧ PtAt w (fun _ => True) b (i * 10 + 5) (rhsP p q r i)
theorem IsAll.upd {w w' : World} {p q r : Pt} {v : Value} (h : IsAll w p q r v) (u : Upd Non w w') : IsAll w' p q r v := by
  obtain ⟨b, h1, h2⟩ := h
  exact ⟨b, h1, fun i hi => ⟨(h2 i hi).1.upd' u, (h2 i hi).2.upd' u⟩⟩
theorem isAll_of {w w' : World} {b : Nat} {t : TypeId} {p q r : Pt} {KA0 KB0 : Option Addr} {ka0 kb0 : Nat} {KA1 KB1 : Option Addr} {ka1 kb1 : Nat} {KA2 KB2 : Option Addr} {ka2 kb2 : Nat} {KA3 KB3 : Option Addr} {ka3 kb3 : Nat} {KA4 KB4 : Option Addr} {ka4 kb4 : Nat} {KA5 KB5 : Option Addr} {ka5 kb5 : Nat} (h : Blk w' b t #[.int .i64 (lhsP p q r 0).v, .int .i64 (lhsP p q r 0).op, .int .i64 (lhsP p q r 0).imm, .int .i64 (lhsP p q r 0).iv, .slice KA0 (lhsP p q r 0).kids.length ka0, .int .i64 (rhsP p q r 0).v, .int .i64 (rhsP p q r 0).op, .int .i64 (rhsP p q r 0).imm, .int .i64 (rhsP p q r 0).iv, .slice KB0 (rhsP p q r 0).kids.length kb0, .int .i64 (lhsP p q r 1).v, .int .i64 (lhsP p q r 1).op, .int .i64 (lhsP p q r 1).imm, .int .i64 (lhsP p q r 1).iv, .slice KA1 (lhsP p q r 1).kids.length ka1, .int .i64 (rhsP p q r 1).v, .int .i64 (rhsP p q r 1).op, .int .i64 (rhsP p q r 1).imm, .int .i64 (rhsP p q r 1).iv, .slice KB1 (rhsP p q r 1).kids.length kb1, .int .i64 (lhsP p q r 2).v, .int .i64 (lhsP p q r 2).op, .int .i64 (lhsP p q r 2).imm, .int .i64 (lhsP p q r 2).iv, .slice KA2 (lhsP p q r 2).kids.length ka2, .int .i64 (rhsP p q r 2).v, .int .i64 (rhsP p q r 2).op, .int .i64 (rhsP p q r 2).imm, .int .i64 (rhsP p q r 2).iv, .slice KB2 (rhsP p q r 2).kids.length kb2, .int .i64 (lhsP p q r 3).v, .int .i64 (lhsP p q r 3).op, .int .i64 (lhsP p q r 3).imm, .int .i64 (lhsP p q r 3).iv, .slice KA3 (lhsP p q r 3).kids.length ka3, .int .i64 (rhsP p q r 3).v, .int .i64 (rhsP p q r 3).op, .int .i64 (rhsP p q r 3).imm, .int .i64 (rhsP p q r 3).iv, .slice KB3 (rhsP p q r 3).kids.length kb3, .int .i64 (lhsP p q r 4).v, .int .i64 (lhsP p q r 4).op, .int .i64 (lhsP p q r 4).imm, .int .i64 (lhsP p q r 4).iv, .slice KA4 (lhsP p q r 4).kids.length ka4, .int .i64 (rhsP p q r 4).v, .int .i64 (rhsP p q r 4).op, .int .i64 (rhsP p q r 4).imm, .int .i64 (rhsP p q r 4).iv, .slice KB4 (rhsP p q r 4).kids.length kb4, .int .i64 (lhsP p q r 5).v, .int .i64 (lhsP p q r 5).op, .int .i64 (lhsP p q r 5).imm, .int .i64 (lhsP p q r 5).iv, .slice KA5 (lhsP p q r 5).kids.length ka5, .int .i64 (rhsP p q r 5).v, .int .i64 (rhsP p q r 5).op, .int .i64 (rhsP p q r 5).imm, .int .i64 (rhsP p q r 5).iv, .slice KB5 (rhsP p q r 5).kids.length kb5]) (u : Upd Non w w') (ga0 : PtK w (fun _ => True) (lhsP p q r 0) KA0 ka0) (gb0 : PtK w (fun _ => True) (rhsP p q r 0) KB0 kb0) (ga1 : PtK w (fun _ => True) (lhsP p q r 1) KA1 ka1) (gb1 : PtK w (fun _ => True) (rhsP p q r 1) KB1 kb1) (ga2 : PtK w (fun _ => True) (lhsP p q r 2) KA2 ka2) (gb2 : PtK w (fun _ => True) (rhsP p q r 2) KB2 kb2) (ga3 : PtK w (fun _ => True) (lhsP p q r 3) KA3 ka3) (gb3 : PtK w (fun _ => True) (rhsP p q r 3) KB3 kb3) (ga4 : PtK w (fun _ => True) (lhsP p q r 4) KA4 ka4) (gb4 : PtK w (fun _ => True) (rhsP p q r 4) KB4 kb4) (ga5 : PtK w (fun _ => True) (lhsP p q r 5) KA5 ka5) (gb5 : PtK w (fun _ => True) (rhsP p q r 5) KB5 kb5) :
    ∀ i, i < 6 → PtAt w' (fun _ => True) b (i * 10) (lhsP p q r i) ∧ PtAt w' (fun _ => True) b (i * 10 + 5) (rhsP p q r i) := by
  intro i hi
  match i, hi with
  | 0, _ => exact ⟨⟨KA0, ka0, by rw [h.cell]; rfl, by rw [h.cell]; rfl, by rw [h.cell]; rfl, by rw [h.cell]; rfl, by rw [h.cell]; rfl, PtK.upd u (fun _ _ _ f => f) _ _ _ ga0⟩, KB0, kb0, by rw [h.cell]; rfl, by rw [h.cell]; rfl, by rw [h.cell]; rfl, by rw [h.cell]; rfl, by rw [h.cell]; rfl, PtK.upd u (fun _ _ _ f => f) _ _ _ gb0⟩
  | 1, _ => exact ⟨⟨KA1, ka1, by rw [h.cell]; rfl, by rw [h.cell]; rfl, by rw [h.cell]; rfl, by rw [h.cell]; rfl, by rw [h.cell]; rfl, PtK.upd u (fun _ _ _ f => f) _ _ _ ga1⟩, KB1, kb1, by rw [h.cell]; rfl, by rw [h.cell]; rfl, by rw [h.cell]; rfl, by rw [h.cell]; rfl, by rw [h.cell]; rfl, PtK.upd u (fun _ _ _ f => f) _ _ _ gb1⟩
  | 2, _ => exact ⟨⟨KA2, ka2, by rw [h.cell]; rfl, by rw [h.cell]; rfl, by rw [h.cell]; rfl, by rw [h.cell]; rfl, by rw [h.cell]; rfl, PtK.upd u (fun _ _ _ f => f) _ _ _ ga2⟩, KB2, kb2, by rw [h.cell]; rfl, by rw [h.cell]; rfl, by rw [h.cell]; rfl, by rw [h.cell]; rfl, by rw [h.cell]; rfl, PtK.upd u (fun _ _ _ f => f) _ _ _ gb2⟩
  | 3, _ => exact ⟨⟨KA3, ka3, by rw [h.cell]; rfl, by rw [h.cell]; rfl, by rw [h.cell]; rfl, by rw [h.cell]; rfl, by rw [h.cell]; rfl, PtK.upd u (fun _ _ _ f => f) _ _ _ ga3⟩, KB3, kb3, by rw [h.cell]; rfl, by rw [h.cell]; rfl, by rw [h.cell]; rfl, by rw [h.cell]; rfl, by rw [h.cell]; rfl, PtK.upd u (fun _ _ _ f => f) _ _ _ gb3⟩
  | 4, _ => exact ⟨⟨KA4, ka4, by rw [h.cell]; rfl, by rw [h.cell]; rfl, by rw [h.cell]; rfl, by rw [h.cell]; rfl, by rw [h.cell]; rfl, PtK.upd u (fun _ _ _ f => f) _ _ _ ga4⟩, KB4, kb4, by rw [h.cell]; rfl, by rw [h.cell]; rfl, by rw [h.cell]; rfl, by rw [h.cell]; rfl, by rw [h.cell]; rfl, PtK.upd u (fun _ _ _ f => f) _ _ _ gb4⟩
  | 5, _ => exact ⟨⟨KA5, ka5, by rw [h.cell]; rfl, by rw [h.cell]; rfl, by rw [h.cell]; rfl, by rw [h.cell]; rfl, by rw [h.cell]; rfl, PtK.upd u (fun _ _ _ f => f) _ _ _ ga5⟩, KB5, kb5, by rw [h.cell]; rfl, by rw [h.cell]; rfl, by rw [h.cell]; rfl, by rw [h.cell]; rfl, by rw [h.cell]; rfl, PtK.upd u (fun _ _ _ f => f) _ _ _ gb5⟩
def lV2 (p q r : Pt) (i : Nat) (g : Nat → Value) (w : World) : Prop :=
  match i with
  | 2 => IsP w (opP 4 p q) (g 38)
  | 5 => IsP w (opP 4 q p) (g 41)
  | 6 => IsPair w (opP 4 p q) (opP 4 q p) (g 42)
  | 9 => IsP w (opP 6 p q) (g 45)
  | 12 => IsP w (opP 6 q p) (g 48)
  | 13 => IsPair w (opP 6 p q) (opP 6 q p) (g 49)
  | 17 => IsP w (opP 4 q r) (g 53)
  | 18 => IsP w (opP 6 p (opP 4 q r)) (g 54)
  | 21 => IsP w (opP 6 p q) (g 57)
  | 24 => IsP w (opP 6 p r) (g 60)
  | 25 => IsP w (opP 4 (opP 6 p q) (opP 6 p r)) (g 61)
  | 26 => IsPair w (opP 6 p (opP 4 q r)) (opP 4 (opP 6 p q) (opP 6 p r)) (g 62)
  | 29 => IsP w (opP 5 p q) (g 65)
  | 32 => IsSl1 w q (g 68)
  | 33 => IsP w (unP 20 q) (g 69)
  | 34 => IsP w (opP 4 p (unP 20 q)) (g 70)
  | 35 => IsPair w (opP 5 p q) (opP 4 p (unP 20 q)) (g 71)
  | 38 => IsP w (opP 6 p q) (g 74)
  | 40 => IsP w (opP 6 (opP 6 p q) r) (g 76)
  | 44 => IsP w (opP 6 q r) (g 80)
  | 45 => IsP w (opP 6 p (opP 6 q r)) (g 81)
  | 46 => IsPair w (opP 6 (opP 6 p q) r) (opP 6 p (opP 6 q r)) (g 82)
  | 49 => IsP w (opP 5 p q) (g 85)
  | 50 => IsSl1 w (opP 5 p q) (g 86)
  | 51 => IsP w (unP 21 (opP 5 p q)) (g 87)
  | 55 => IsP w (opP 4 p oneP) (g 91)
  | 56 => IsP w (opP 5 q (opP 4 p oneP)) (g 92)
  | 57 => IsPair w (unP 21 (opP 5 p q)) (opP 5 q (opP 4 p oneP)) (g 93)
  | 58 => IsAll w p q r (g 94)
  | _ => True
def lS2 (i : Nat) : List Nat :=
  match i with
  | 2 => [38]
  | 5 => [41]
  | 6 => [42]
  | 9 => [45]
  | 12 => [48]
  | 13 => [49]
  | 17 => [53]
  | 18 => [54]
  | 21 => [57]
  | 24 => [60]
  | 25 => [61]
  | 26 => [62]
  | 29 => [65]
  | 32 => [68]
  | 33 => [69]
  | 34 => [70]
  | 35 => [71]
  | 38 => [74]
  | 40 => [76]
  | 44 => [80]
  | 45 => [81]
  | 46 => [82]
  | 49 => [85]
  | 50 => [86]
  | 51 => [87]
  | 55 => [91]
  | 56 => [92]
  | 57 => [93]
  | 58 => [94]
  | _ => []

set_option maxRecDepth 100000 in
set_option maxHeartbeats 8000000 in
theorem poLaws_c (w : World) (F : Nat → Prop) (A B C : Option Addr) (ca cb cc : Nat) (xs ys zs : List Int) (which : Int) (hx : Ints w F A xs) (hy : Ints w F B ys) (hz : Ints w F C zs) (hca : xs.length ≤ ca) (hcb : ys.length ≤ cb) (hcc : zs.length ≤ cc)
    (hI : ∀ x ∈ xs, I64 x) (hJ : ∀ x ∈ ys, I64 x) (hK : ∀ x ∈ zs, I64 x) (hn : xs.length ≤ 100000000000000) (hm : ys.length ≤ 100000000000000) (ho : zs.length ≤ 100000000000000) :
    Calls Try.prog 5 #[.slice A xs.length ca, .slice B ys.length cb, .slice C zs.length cc, .int .i64 which] w fun e w' => e = .returned (.bool true) ∧ Upd Non w w' := by
  have CA := Lib.hid (fun w' (u : Upd Non w w') => pattern_c w' F A ca (xs.take 3) 3 (by omega) (by omega) ((hx.upd u (fun _ _ _ f => f)).take_ 3) (by rw [List.length_take]; omega) (fun x h => hI x (List.mem_of_mem_take h)) (by rw [List.length_take]; omega))
  have CB := Lib.hid (fun w' (u : Upd Non w w') => pattern_c w' F B cb (ys.take 3) 3 (by omega) (by omega) ((hy.upd u (fun _ _ _ f => f)).take_ 3) (by rw [List.length_take]; omega) (fun x h => hJ x (List.mem_of_mem_take h)) (by rw [List.length_take]; omega))
  have CC := Lib.hid (fun w' (u : Upd Non w w') => pattern_c w' F C cc (zs.take 3) 3 (by omega) (by omega) ((hz.upd u (fun _ _ _ f => f)).take_ 3) (by rw [List.length_take]; omega) (fun x h => hK x (List.mem_of_mem_take h)) (by rw [List.length_take]; omega))
  have ea : (xs.take 3).length = min 3 xs.length := by simp
  have eb : (ys.take 3).length = min 3 ys.length := by simp
  have ec : (zs.take 3).length = min 3 zs.length := by simp
  obtain ⟨ma, Hma⟩ := nm (xs.take 3).length
  obtain ⟨mb, Hmb⟩ := nm (ys.take 3).length
  obtain ⟨mc, Hmc⟩ := nm (zs.take 3).length
  obtain ⟨la, Hla⟩ := nm xs.length
  obtain ⟨lb, Hlb⟩ := nm ys.length
  obtain ⟨lc, Hlc⟩ := nm zs.length
  rw [Hma.out, Hla.out] at ea
  rw [Hmb.out, Hlb.out] at eb
  rw [Hmc.out, Hlc.out] at ec
  rw [Hma.out, show ((3 : Nat) : Int) = 3 from rfl] at CA
  rw [Hmb.out, show ((3 : Nat) : Int) = 3 from rfl] at CB
  rw [Hmc.out, show ((3 : Nat) : Int) = 3 from rfl] at CC
  rw [Hla.out] at hca
  rw [Hlb.out] at hcb
  rw [Hlc.out] at hcc
  rw [Hla.out, Hlb.out, Hlc.out]
  have ham : (min (la : Int) 3).toNat = ma := by omega
  have hbm : (min (lb : Int) 3).toNat = mb := by omega
  have hcm : (min (lc : Int) 3).toNat = mc := by omega
  have ha4 : 0 ≤ min (la : Int) 3 := by omega
  have hb4 : 0 ≤ min (lb : Int) 3 := by omega
  have hc4 : 0 ≤ min (lc : Int) 3 := by omega
  have ha5 : min (la : Int) 3 ≤ (ca : Int) := by omega
  have hb5 : min (lb : Int) 3 ≤ (cb : Int) := by omega
  have hc5 : min (lc : Int) 3 ≤ (cc : Int) := by omega
  clear hx hy hz hI hJ hK hn hm ho ea eb ec
  go_enter Try.func5, Try.ntmps5
  go_wp2_with fail
  obtain ⟨wD, HwD⟩ := nm w.drew
  have uD : Upd Non w wD := by rw [← HwD.out]; exact Upd.refl.drew
  refine wp_region_held_drew (S := fun _ => True) (by kernel_rfl) trivial (fun hHeld => ?_)
  rw [HwD.out]
  refine wpAnyH_take (i := 0) (v := ?_) rfl (by kernel_rfl) (by kernel_rfl) (by kernel_rfl) (fun _ _ _ h => h) (Or.inl ⟨by rfl, ?_⟩) (by assumption) ?_
  rotate_left
  · intro w hSw; (try dsimp only at hSw); go_simp; try with_reducible rfl
  try simp only [put_y]
  try simp only [Act.put]
  try simp only [put_z]
  refine wpAnyH_take (i := 1) (v := ?_) rfl (by kernel_rfl) (by kernel_rfl) (by kernel_rfl) (fun _ _ _ h => h) (Or.inl ⟨by rfl, ?_⟩) (by assumption) ?_
  rotate_left
  · intro w hSw; (try dsimp only at hSw); go_simp; try with_reducible rfl
  try simp only [put_y]
  try simp only [Act.put]
  try simp only [put_z]
  refine wpAnyH_take (i := 2) (v := ?_) rfl (by kernel_rfl) (by kernel_rfl) (by kernel_rfl) (fun _ _ _ h => h) (Or.inl ⟨by rfl, ?_⟩) (by assumption) ?_
  rotate_left
  · intro w hSw; (try dsimp only at hSw); go_simp; try with_reducible rfl
  try simp only [put_y]
  try simp only [Act.put]
  try simp only [put_z]
  refine wpAnyH_take (i := 3) (v := ?_) rfl (by kernel_rfl) (by kernel_rfl) (by kernel_rfl) (fun _ _ _ h => h) (Or.inl ⟨by rfl, ?_⟩) (by assumption) ?_
  rotate_left
  · intro w hSw; (try dsimp only at hSw); go_simp; try with_reducible rfl
  try simp only [put_y]
  try simp only [Act.put]
  try simp only [put_z]
  refine wpAnyH_take (i := 4) (v := ?_) rfl (by kernel_rfl) (by kernel_rfl) (by kernel_rfl) (fun _ _ _ h => h) (Or.inl ⟨by rfl, ?_⟩) (by assumption) ?_
  rotate_left
  · intro w hSw; (try dsimp only at hSw); go_simp; try with_reducible rfl
  try simp only [put_y]
  try simp only [Act.put]
  try simp only [put_z]
  refine wpAnyH_take (i := 6) (v := ?_) rfl (by kernel_rfl) (by kernel_rfl) (by kernel_rfl) (fun _ _ _ h => h) (Or.inl ⟨by rfl, ?_⟩) (by assumption) ?_
  rotate_left
  · intro w hSw; (try dsimp only at hSw); go_simp; try with_reducible rfl
  try simp only [put_y]
  try simp only [Act.put]
  try simp only [put_z]
  refine wpAnyH_take (i := 7) (v := ?_) rfl (by kernel_rfl) (by kernel_rfl) (by kernel_rfl) (fun _ _ _ h => h) (Or.inl ⟨by rfl, ?_⟩) (by assumption) ?_
  rotate_left
  · intro w hSw; (try dsimp only at hSw); go_simp; try with_reducible rfl
  try simp only [put_y]
  try simp only [Act.put]
  try simp only [put_z]
  refine wpAnyH_take (i := 8) (v := ?_) rfl (by kernel_rfl) (by kernel_rfl) (by kernel_rfl) (fun _ _ _ h => h) (Or.inl ⟨by rfl, ?_⟩) (by assumption) ?_
  rotate_left
  · intro w hSw; (try dsimp only at hSw); go_simp; try with_reducible rfl
  try simp only [put_y]
  try simp only [Act.put]
  try simp only [put_z]
  refine wpAnyH_take (i := 9) (v := ?_) rfl (by kernel_rfl) (by kernel_rfl) (by kernel_rfl) (fun _ _ _ h => h) (Or.inl ⟨by rfl, ?_⟩) (by assumption) ?_
  rotate_left
  · intro w hSw; (try dsimp only at hSw); go_simp; try with_reducible rfl
  try simp only [put_y]
  try simp only [Act.put]
  try simp only [put_z]
  refine wpAnyH_take (i := 10) (v := ?_) rfl (by kernel_rfl) (by kernel_rfl) (by kernel_rfl) (fun _ _ _ h => h) (Or.inl ⟨by rfl, ?_⟩) (by assumption) ?_
  rotate_left
  · intro w hSw; (try dsimp only at hSw); go_simp; try with_reducible rfl
  try simp only [put_y]
  try simp only [Act.put]
  try simp only [put_z]
  refine wpAnyH_take (i := 12) (v := ?_) rfl (by kernel_rfl) (by kernel_rfl) (by kernel_rfl) (fun _ _ _ h => h) (Or.inl ⟨by rfl, ?_⟩) (by assumption) ?_
  rotate_left
  · intro w hSw; (try dsimp only at hSw); go_simp; try with_reducible rfl
  try simp only [put_y]
  try simp only [Act.put]
  try simp only [put_z]
  refine wpAnyH_take (i := 13) (v := ?_) rfl (by kernel_rfl) (by kernel_rfl) (by kernel_rfl) (fun _ _ _ h => h) (Or.inl ⟨by rfl, ?_⟩) (by assumption) ?_
  rotate_left
  · intro w hSw; (try dsimp only at hSw); go_simp; try with_reducible rfl
  try simp only [put_y]
  try simp only [Act.put]
  try simp only [put_z]
  refine wpAnyH_take (i := 14) (v := ?_) rfl (by kernel_rfl) (by kernel_rfl) (by kernel_rfl) (fun _ _ _ h => h) (Or.inl ⟨by rfl, ?_⟩) (by assumption) ?_
  rotate_left
  · intro w hSw; (try dsimp only at hSw); go_simp; try with_reducible rfl
  try simp only [put_y]
  try simp only [Act.put]
  try simp only [put_z]
  refine wpAnyH_take (i := 15) (v := ?_) rfl (by kernel_rfl) (by kernel_rfl) (by kernel_rfl) (fun _ _ _ h => h) (Or.inl ⟨by rfl, ?_⟩) (by assumption) ?_
  rotate_left
  · intro w hSw; (try dsimp only at hSw); go_simp; try with_reducible rfl
  try simp only [put_y]
  try simp only [Act.put]
  try simp only [put_z]
  refine wpAnyH_take (i := 16) (v := ?_) rfl (by kernel_rfl) (by kernel_rfl) (by kernel_rfl) (fun _ _ _ h => h) (Or.inl ⟨by rfl, ?_⟩) (by assumption) ?_
  rotate_left
  · intro w hSw; (try dsimp only at hSw); go_simp; try with_reducible rfl
  try simp only [put_y]
  try simp only [Act.put]
  try simp only [put_z]
  try simp only [ham, hbm, hcm]
  refine wpAnyH_facts (fuel := 3) [5, 11, 17, 18, 19, 20] [23, 29, 35, 9, 10, 11] lS1 (fun w w' => Upd Non w w') (lV1 wD.heap.size) lO1 (by kernel_rfl) (by decide) trivial Upd.refl (fun _ _ h k => h.then_non k) ?_ (fun _ _ h => h.size) ?_ ?_ ?_
  · intro i hi g g' w w' _ hR hs hV
    simp only [List.mem_cons, List.not_mem_nil, or_false] at hi
    rcases hi with rfl | rfl | rfl | rfl | rfl | rfl <;> (simp only [lS1, List.mem_cons, List.not_mem_nil, or_false, forall_eq] at hs; simp only [lV1, hs] at hV ⊢; exact hV.upd hR)
  · intro i hi g g' hs k hk
    simp only [List.mem_cons, List.not_mem_nil, or_false] at hi
    rcases hi with rfl | rfl | rfl | rfl | rfl | rfl <;> (simp only [lS1, List.mem_cons, List.not_mem_nil, or_false, forall_eq] at hs; simp only [lO1, hs] at hk ⊢ <;> exact hk)
  · intro i hi
    simp only [List.mem_cons, List.not_mem_nil, or_false] at hi
    rcases hi with rfl | rfl | rfl | rfl | rfl | rfl
    · refine StepF.of rfl (fun g w1 hR _ _ K hK => ?_)
      simp only [put_y] at hK ⊢
      simp only [mkA, List.foldl_cons, List.foldl_nil, put_z] at hK ⊢
      go_simp
      refine (CA.out w1 (uD.then_non hR)).mono ?_
      rintro e w2 ⟨p, KA, kc, rfl, hp, hps, hpk, hu⟩
      go_wp2_with fail
      refine hK.out _ _ hu trivial ?_ (fun k hk => hk.elim)
      show IsPat w2 _
      rw [upd_at]
      exact ⟨p, hp, hps, KA, kc, rfl, hpk.mono (fun _ _ _ => trivial) _ _ _⟩
    · refine StepF.of rfl (fun g w1 hR _ _ K hK => ?_)
      simp only [put_y] at hK ⊢
      simp only [mkA, List.foldl_cons, List.foldl_nil, put_z] at hK ⊢
      go_simp
      refine (CB.out w1 (uD.then_non hR)).mono ?_
      rintro e w2 ⟨p, KA, kc, rfl, hp, hps, hpk, hu⟩
      go_wp2_with fail
      refine hK.out _ _ hu trivial ?_ (fun k hk => hk.elim)
      show IsPat w2 _
      rw [upd_at]
      exact ⟨p, hp, hps, KA, kc, rfl, hpk.mono (fun _ _ _ => trivial) _ _ _⟩
    · refine StepF.of rfl (fun g w1 hR _ _ K hK => ?_)
      simp only [put_y] at hK ⊢
      simp only [mkA, List.foldl_cons, List.foldl_nil, put_z] at hK ⊢
      go_simp
      refine (CC.out w1 (uD.then_non hR)).mono ?_
      rintro e w2 ⟨p, KA, kc, rfl, hp, hps, hpk, hu⟩
      go_wp2_with fail
      refine hK.out _ _ hu trivial ?_ (fun k hk => hk.elim)
      show IsPat w2 _
      rw [upd_at]
      exact ⟨p, hp, hps, KA, kc, rfl, hpk.mono (fun _ _ _ => trivial) _ _ _⟩
    · refine StepF.of rfl (fun g w1 hR _ _ K hK => ?_)
      simp only [put_y] at hK ⊢
      simp only [mkA, List.foldl_cons, List.foldl_nil, put_z] at hK ⊢
      go_simp
      refine hK.out _ _ (Upd.refl.alloc _) trivial ?_ (fun k hk => ?_)
      · show IsVar _ _ _
        rw [upd_at]
        exact ⟨w1.heap.size, rfl, hR.size, Blk.new _ _ _⟩
      · have hk2 : updG g _ _ _ = _ := hk
        rw [upd_at] at hk2
        injection hk2 with hk2
        injection hk2 with hk2
        injection hk2 with hk2
        subst hk2
        simp
    · refine StepF.of rfl (fun g w1 hR _ _ K hK => ?_)
      simp only [put_y] at hK ⊢
      simp only [mkA, List.foldl_cons, List.foldl_nil, put_z] at hK ⊢
      go_simp
      refine hK.out _ _ (Upd.refl.alloc _) trivial ?_ (fun k hk => ?_)
      · show IsVar _ _ _
        rw [upd_at]
        exact ⟨w1.heap.size, rfl, hR.size, Blk.new _ _ _⟩
      · have hk2 : updG g _ _ _ = _ := hk
        rw [upd_at] at hk2
        injection hk2 with hk2
        injection hk2 with hk2
        injection hk2 with hk2
        subst hk2
        simp
    · refine StepF.of rfl (fun g w1 hR _ _ K hK => ?_)
      simp only [put_y] at hK ⊢
      simp only [mkA, List.foldl_cons, List.foldl_nil, put_z] at hK ⊢
      go_simp
      refine hK.out _ _ (Upd.refl.alloc _) trivial ?_ (fun k hk => ?_)
      · show IsVar _ _ _
        rw [upd_at]
        exact ⟨w1.heap.size, rfl, hR.size, Blk.new _ _ _⟩
      · have hk2 : updG g _ _ _ = _ := hk
        rw [upd_at] at hk2
        injection hk2 with hk2
        injection hk2 with hk2
        injection hk2 with hk2
        subst hk2
        simp
  · intro g w1 hR _ hV hO
    obtain ⟨p, hp, hps, Kp, kp, e23, hkp⟩ : IsPat w1 (g 23) := hV 5 (by simp)
    obtain ⟨q, hq, hqs, Kq, kq, e29, hkq⟩ : IsPat w1 (g 29) := hV 11 (by simp)
    obtain ⟨r, hr, hrs, Kr, kr, e35, hkr⟩ : IsPat w1 (g 35) := hV 17 (by simp)
    obtain ⟨b1, e9, hn1, hb1⟩ : IsVar wD.heap.size w1 (g 9) := hV 18 (by simp)
    obtain ⟨b2, e10, hn2, hb2⟩ : IsVar wD.heap.size w1 (g 10) := hV 19 (by simp)
    obtain ⟨b3, e11, hn3, hb3⟩ : IsVar wD.heap.size w1 (g 11) := hV 20 (by simp)
    have h12 : b2 ≠ b1 := fun e => hO 18 (by simp) 19 (by simp) (by decide) b1 e9 (by rw [← e]; exact e10)
    have h13 : b3 ≠ b1 := fun e => hO 18 (by simp) 20 (by simp) (by decide) b1 e9 (by rw [← e]; exact e11)
    have h23 : b3 ≠ b2 := fun e => hO 19 (by simp) 20 (by simp) (by decide) b2 e10 (by rw [← e]; exact e11)
    have hkp1 := PtK.nz p _ _ hp hkp
    have hkq1 := PtK.nz q _ _ hq hkq
    have hkr1 := PtK.nz r _ _ hr hkr
    have z1 := zero_nz hb1
    have z2 := zero_nz hb2
    have z3 := zero_nz hb3
    have hU1 := uD.then_non hR
    have hsD := uD.size
    clear hV hO hkp hkq hkr CA CB CC
    simp only [mkA, List.foldl_cons, List.foldl_nil, put_z, e23, e29, e35, e9, e10, e11]
    clear e23 e29 e35 e9 e10 e11 g
    unfold pv
    unfold zero5 at hb1 hb2 hb3
    have c0 := hb1.cell 0
    have c1 := hb1.cell 1
    have c2 := hb1.cell 2
    have c3 := hb1.cell 3
    have c4 := hb1.cell 4
    have f0 := hb1.frozen
    refine wpAnyH_ready (rs := [21]) (by kernel_rfl) (by simp) ?_
    refine AllReadyH.cons rfl (fun K hK => ?_) AllReadyH.nil
    go_simp
    refine hK.out _ _ trivial (fun _ => ?_)
    clear hK K c0 c1 c2 c3 c4 f0
    try simp only [put_y]
    try simp only [Act.put]
    try simp only [put_z]
    rw [set5_eq]
    obtain ⟨X1, HX1⟩ := nm (set5 w1 b1 (.int .i64 p.v) (.int .i64 p.op) (.int .i64 p.imm) (.int .i64 p.iv) (.slice Kp p.kids.length kp))
    have uX1 : Upd (· = b1) w1 X1 := by rw [← HX1.out]; exact set5_upd _ _ _ _ _ _ _
    have hX1 : Blk X1 b1 24 #[.int .i64 p.v, .int .i64 p.op, .int .i64 p.imm, .int .i64 p.iv, .slice Kp p.kids.length kp] := by rw [← HX1.out]; exact set5_blk hb1 _ _ _ _ _
    rw [HX1.out]
    have hb2 := hb2.upd uX1 h12
    have hb3 := hb3.upd uX1 h13
    have c0 := hb2.cell 0
    have c1 := hb2.cell 1
    have c2 := hb2.cell 2
    have c3 := hb2.cell 3
    have c4 := hb2.cell 4
    have f0 := hb2.frozen
    refine wpAnyH_ready (rs := [22]) (by kernel_rfl) (by simp) ?_
    refine AllReadyH.cons rfl (fun K hK => ?_) AllReadyH.nil
    go_simp
    refine hK.out _ _ trivial (fun _ => ?_)
    clear hK K c0 c1 c2 c3 c4 f0
    try simp only [put_y]
    try simp only [Act.put]
    try simp only [put_z]
    rw [set5_eq]
    obtain ⟨X2, HX2⟩ := nm (set5 X1 b2 (.int .i64 q.v) (.int .i64 q.op) (.int .i64 q.imm) (.int .i64 q.iv) (.slice Kq q.kids.length kq))
    have uX2 : Upd (· = b2) X1 X2 := by rw [← HX2.out]; exact set5_upd _ _ _ _ _ _ _
    have hX2 : Blk X2 b2 24 #[.int .i64 q.v, .int .i64 q.op, .int .i64 q.imm, .int .i64 q.iv, .slice Kq q.kids.length kq] := by rw [← HX2.out]; exact set5_blk hb2 _ _ _ _ _
    rw [HX2.out]
    have hb3 := hb3.upd uX2 h23
    have hX1 := hX1.upd uX2 (Ne.symm h12)
    have c0 := hb3.cell 0
    have c1 := hb3.cell 1
    have c2 := hb3.cell 2
    have c3 := hb3.cell 3
    have c4 := hb3.cell 4
    have f0 := hb3.frozen
    refine wpAnyH_ready (rs := [23]) (by kernel_rfl) (by simp) ?_
    refine AllReadyH.cons rfl (fun K hK => ?_) AllReadyH.nil
    go_simp
    refine hK.out _ _ trivial (fun _ => ?_)
    clear hK K c0 c1 c2 c3 c4 f0
    try simp only [put_y]
    try simp only [Act.put]
    try simp only [put_z]
    rw [set5_eq]
    obtain ⟨X3, HX3⟩ := nm (set5 X2 b3 (.int .i64 r.v) (.int .i64 r.op) (.int .i64 r.imm) (.int .i64 r.iv) (.slice Kr r.kids.length kr))
    have uX3 : Upd (· = b3) X2 X3 := by rw [← HX3.out]; exact set5_upd _ _ _ _ _ _ _
    have hX3 : Blk X3 b3 24 #[.int .i64 r.v, .int .i64 r.op, .int .i64 r.imm, .int .i64 r.iv, .slice Kr r.kids.length kr] := by rw [← HX3.out]; exact set5_blk hb3 _ _ _ _ _
    rw [HX3.out]
    have hX1 := hX1.upd uX3 (Ne.symm h13)
    have hX2 := hX2.upd uX3 (Ne.symm h23)
    have U3 : Upd (fun k => k = b1 ∨ k = b2 ∨ k = b3) w1 X3 := ((uX1.mono (T := fun k => k = b1 ∨ k = b2 ∨ k = b3) (fun _ _ h => .inl h)).trans uX2 (fun _ _ h => .inr (.inl h))).trans uX3 (fun _ _ h => .inr (.inr h))
    have HU3 : Upd Non w X3 := hU1.trans U3 (fun i hi h => by omega)
    have hP := PtK.upd U3 (fun k _ h e => by rcases e with rfl | rfl | rfl; exact z1 h.2; exact z2 h.2; exact z3 h.2) _ _ _ hkp1
    have hQ := PtK.upd U3 (fun k _ h e => by rcases e with rfl | rfl | rfl; exact z1 h.2; exact z2 h.2; exact z3 h.2) _ _ _ hkq1
    have hR3 := PtK.upd U3 (fun k _ h e => by rcases e with rfl | rfl | rfl; exact z1 h.2; exact z2 h.2; exact z3 h.2) _ _ _ hkr1
    have hP := hP.mono (G := fun _ => True) (fun _ _ _ => trivial) _ _ _
    have hQ := hQ.mono (G := fun _ => True) (fun _ _ _ => trivial) _ _ _
    have hR3 := hR3.mono (G := fun _ => True) (fun _ _ _ => trivial) _ _ _
    clear hkp1 hkq1 hkr1 z1 z2 z3 uX1 uX2 uX3 HX1 HX2 HX3 U3 hU1 hb1 hb2 hb3 h12 h13 h23 hn1 hn2 hn3 hR uD
    clear ham hbm hcm ha4 hb4 hc4 ha5 hb5 hc5
    refine wpAnyH_done (by kernel_rfl) ?_ _
    go_wp2_with fail
    obtain ⟨wE, HwE⟩ := nm X3.drew
    have uE : Upd Non X3 wE := by rw [← HwE.out]; exact Upd.refl.drew
    have hS3 : ∀ w', Upd Non X3 w' → w'.cell? ⟨b1, 0, none⟩ = some (.int .i64 p.v) ∧ w'.cell? ⟨b1, 1, none⟩ = some (.int .i64 p.op) ∧ w'.cell? ⟨b1, 2, none⟩ = some (.int .i64 p.imm) ∧ w'.cell? ⟨b1, 3, none⟩ = some (.int .i64 p.iv) ∧ w'.cell? ⟨b1, 4, none⟩ = some (.slice Kp p.kids.length kp) ∧ w'.cell? ⟨b2, 0, none⟩ = some (.int .i64 q.v) ∧ w'.cell? ⟨b2, 1, none⟩ = some (.int .i64 q.op) ∧ w'.cell? ⟨b2, 2, none⟩ = some (.int .i64 q.imm) ∧ w'.cell? ⟨b2, 3, none⟩ = some (.int .i64 q.iv) ∧ w'.cell? ⟨b2, 4, none⟩ = some (.slice Kq q.kids.length kq) ∧ w'.cell? ⟨b3, 0, none⟩ = some (.int .i64 r.v) ∧ w'.cell? ⟨b3, 1, none⟩ = some (.int .i64 r.op) ∧ w'.cell? ⟨b3, 2, none⟩ = some (.int .i64 r.imm) ∧ w'.cell? ⟨b3, 3, none⟩ = some (.int .i64 r.iv) ∧ w'.cell? ⟨b3, 4, none⟩ = some (.slice Kr r.kids.length kr) := fun w' u => ⟨cell_upd (hX1.cell 0) u (fun f => f), cell_upd (hX1.cell 1) u (fun f => f), cell_upd (hX1.cell 2) u (fun f => f), cell_upd (hX1.cell 3) u (fun f => f), cell_upd (hX1.cell 4) u (fun f => f), cell_upd (hX2.cell 0) u (fun f => f), cell_upd (hX2.cell 1) u (fun f => f), cell_upd (hX2.cell 2) u (fun f => f), cell_upd (hX2.cell 3) u (fun f => f), cell_upd (hX2.cell 4) u (fun f => f), cell_upd (hX3.cell 0) u (fun f => f), cell_upd (hX3.cell 1) u (fun f => f), cell_upd (hX3.cell 2) u (fun f => f), cell_upd (hX3.cell 3) u (fun f => f), cell_upd (hX3.cell 4) u (fun f => f)⟩
    have hSk : ∀ (x w' : World), Upd Non x w' → (x.cell? ⟨b1, 0, none⟩ = some (.int .i64 p.v) ∧ x.cell? ⟨b1, 1, none⟩ = some (.int .i64 p.op) ∧ x.cell? ⟨b1, 2, none⟩ = some (.int .i64 p.imm) ∧ x.cell? ⟨b1, 3, none⟩ = some (.int .i64 p.iv) ∧ x.cell? ⟨b1, 4, none⟩ = some (.slice Kp p.kids.length kp) ∧ x.cell? ⟨b2, 0, none⟩ = some (.int .i64 q.v) ∧ x.cell? ⟨b2, 1, none⟩ = some (.int .i64 q.op) ∧ x.cell? ⟨b2, 2, none⟩ = some (.int .i64 q.imm) ∧ x.cell? ⟨b2, 3, none⟩ = some (.int .i64 q.iv) ∧ x.cell? ⟨b2, 4, none⟩ = some (.slice Kq q.kids.length kq) ∧ x.cell? ⟨b3, 0, none⟩ = some (.int .i64 r.v) ∧ x.cell? ⟨b3, 1, none⟩ = some (.int .i64 r.op) ∧ x.cell? ⟨b3, 2, none⟩ = some (.int .i64 r.imm) ∧ x.cell? ⟨b3, 3, none⟩ = some (.int .i64 r.iv) ∧ x.cell? ⟨b3, 4, none⟩ = some (.slice Kr r.kids.length kr)) → w'.cell? ⟨b1, 0, none⟩ = some (.int .i64 p.v) ∧ w'.cell? ⟨b1, 1, none⟩ = some (.int .i64 p.op) ∧ w'.cell? ⟨b1, 2, none⟩ = some (.int .i64 p.imm) ∧ w'.cell? ⟨b1, 3, none⟩ = some (.int .i64 p.iv) ∧ w'.cell? ⟨b1, 4, none⟩ = some (.slice Kp p.kids.length kp) ∧ w'.cell? ⟨b2, 0, none⟩ = some (.int .i64 q.v) ∧ w'.cell? ⟨b2, 1, none⟩ = some (.int .i64 q.op) ∧ w'.cell? ⟨b2, 2, none⟩ = some (.int .i64 q.imm) ∧ w'.cell? ⟨b2, 3, none⟩ = some (.int .i64 q.iv) ∧ w'.cell? ⟨b2, 4, none⟩ = some (.slice Kq q.kids.length kq) ∧ w'.cell? ⟨b3, 0, none⟩ = some (.int .i64 r.v) ∧ w'.cell? ⟨b3, 1, none⟩ = some (.int .i64 r.op) ∧ w'.cell? ⟨b3, 2, none⟩ = some (.int .i64 r.imm) ∧ w'.cell? ⟨b3, 3, none⟩ = some (.int .i64 r.iv) ∧ w'.cell? ⟨b3, 4, none⟩ = some (.slice Kr r.kids.length kr) := by
      rintro x w' u ⟨s0, s1, s2, s3, s4, s5, s6, s7, s8, s9, s10, s11, s12, s13, s14⟩
      exact ⟨cell_upd s0 u (fun f => f), cell_upd s1 u (fun f => f), cell_upd s2 u (fun f => f), cell_upd s3 u (fun f => f), cell_upd s4 u (fun f => f), cell_upd s5 u (fun f => f), cell_upd s6 u (fun f => f), cell_upd s7 u (fun f => f), cell_upd s8 u (fun f => f), cell_upd s9 u (fun f => f), cell_upd s10 u (fun f => f), cell_upd s11 u (fun f => f), cell_upd s12 u (fun f => f), cell_upd s13 u (fun f => f), cell_upd s14 u (fun f => f)⟩
    have HSK := Lib.hid hSk
    refine wp_region_held_drew (S := fun w' => w'.cell? ⟨b1, 0, none⟩ = some (.int .i64 p.v) ∧ w'.cell? ⟨b1, 1, none⟩ = some (.int .i64 p.op) ∧ w'.cell? ⟨b1, 2, none⟩ = some (.int .i64 p.imm) ∧ w'.cell? ⟨b1, 3, none⟩ = some (.int .i64 p.iv) ∧ w'.cell? ⟨b1, 4, none⟩ = some (.slice Kp p.kids.length kp) ∧ w'.cell? ⟨b2, 0, none⟩ = some (.int .i64 q.v) ∧ w'.cell? ⟨b2, 1, none⟩ = some (.int .i64 q.op) ∧ w'.cell? ⟨b2, 2, none⟩ = some (.int .i64 q.imm) ∧ w'.cell? ⟨b2, 3, none⟩ = some (.int .i64 q.iv) ∧ w'.cell? ⟨b2, 4, none⟩ = some (.slice Kq q.kids.length kq) ∧ w'.cell? ⟨b3, 0, none⟩ = some (.int .i64 r.v) ∧ w'.cell? ⟨b3, 1, none⟩ = some (.int .i64 r.op) ∧ w'.cell? ⟨b3, 2, none⟩ = some (.int .i64 r.imm) ∧ w'.cell? ⟨b3, 3, none⟩ = some (.int .i64 r.iv) ∧ w'.cell? ⟨b3, 4, none⟩ = some (.slice Kr r.kids.length kr)) (by kernel_rfl) (by rw [HwE.out]; exact hS3 _ uE) (fun hHeld => ?_)
    rw [HwE.out] at hHeld ⊢
    have HS3 := Lib.hid hS3
    clear hS3 hSk
    refine wpAnyH_take (i := 0) (v := ?_) rfl (by kernel_rfl) (by kernel_rfl) (by kernel_rfl) (fun _ _ _ h => h) (Or.inl ⟨by rfl, ?_⟩) (by assumption) ?_
    rotate_left
    · intro w hSw; (try dsimp only at hSw); go_simp; try with_reducible rfl
    try simp only [put_y]
    try simp only [Act.put]
    try simp only [put_z]
    refine wpAnyH_take (i := 1) (v := ?_) rfl (by kernel_rfl) (by kernel_rfl) (by kernel_rfl) (fun _ _ _ h => h) (Or.inl ⟨by rfl, ?_⟩) (by assumption) ?_
    rotate_left
    · intro w hSw; (try dsimp only at hSw); go_simp; try with_reducible rfl
    try simp only [put_y]
    try simp only [Act.put]
    try simp only [put_z]
    refine wpAnyH_take (i := 3) (v := ?_) rfl (by kernel_rfl) (by kernel_rfl) (by kernel_rfl) (fun _ _ _ h => h) (Or.inl ⟨by rfl, ?_⟩) (by assumption) ?_
    rotate_left
    · intro w hSw; (try dsimp only at hSw); go_simp; try with_reducible rfl
    try simp only [put_y]
    try simp only [Act.put]
    try simp only [put_z]
    refine wpAnyH_take (i := 4) (v := ?_) rfl (by kernel_rfl) (by kernel_rfl) (by kernel_rfl) (fun _ _ _ h => h) (Or.inl ⟨by rfl, ?_⟩) (by assumption) ?_
    rotate_left
    · intro w hSw; (try dsimp only at hSw); go_simp; try with_reducible rfl
    try simp only [put_y]
    try simp only [Act.put]
    try simp only [put_z]
    refine wpAnyH_take (i := 7) (v := ?_) rfl (by kernel_rfl) (by kernel_rfl) (by kernel_rfl) (fun _ _ _ h => h) (Or.inl ⟨by rfl, ?_⟩) (by assumption) ?_
    rotate_left
    · intro w hSw; (try dsimp only at hSw); go_simp; try with_reducible rfl
    try simp only [put_y]
    try simp only [Act.put]
    try simp only [put_z]
    refine wpAnyH_take (i := 8) (v := ?_) rfl (by kernel_rfl) (by kernel_rfl) (by kernel_rfl) (fun _ _ _ h => h) (Or.inl ⟨by rfl, ?_⟩) (by assumption) ?_
    rotate_left
    · intro w hSw; (try dsimp only at hSw); go_simp; try with_reducible rfl
    try simp only [put_y]
    try simp only [Act.put]
    try simp only [put_z]
    refine wpAnyH_take (i := 10) (v := ?_) rfl (by kernel_rfl) (by kernel_rfl) (by kernel_rfl) (fun _ _ _ h => h) (Or.inl ⟨by rfl, ?_⟩) (by assumption) ?_
    rotate_left
    · intro w hSw; (try dsimp only at hSw); go_simp; try with_reducible rfl
    try simp only [put_y]
    try simp only [Act.put]
    try simp only [put_z]
    refine wpAnyH_take (i := 11) (v := ?_) rfl (by kernel_rfl) (by kernel_rfl) (by kernel_rfl) (fun _ _ _ h => h) (Or.inl ⟨by rfl, ?_⟩) (by assumption) ?_
    rotate_left
    · intro w hSw; (try dsimp only at hSw); go_simp; try with_reducible rfl
    try simp only [put_y]
    try simp only [Act.put]
    try simp only [put_z]
    refine wpAnyH_take (i := 14) (v := ?_) rfl (by kernel_rfl) (by kernel_rfl) (by kernel_rfl) (fun _ _ _ h => h) (Or.inl ⟨by rfl, ?_⟩) (by assumption) ?_
    rotate_left
    · intro w hSw; (try dsimp only at hSw); go_simp; try with_reducible rfl
    try simp only [put_y]
    try simp only [Act.put]
    try simp only [put_z]
    refine wpAnyH_take (i := 15) (v := ?_) rfl (by kernel_rfl) (by kernel_rfl) (by kernel_rfl) (fun _ _ _ h => h) (Or.inl ⟨by rfl, ?_⟩) (by assumption) ?_
    rotate_left
    · intro w hSw; (try dsimp only at hSw); go_simp; try with_reducible rfl
    try simp only [put_y]
    try simp only [Act.put]
    try simp only [put_z]
    refine wpAnyH_take (i := 16) (v := ?_) rfl (by kernel_rfl) (by kernel_rfl) (by kernel_rfl) (fun _ _ _ h => h) (Or.inl ⟨by rfl, ?_⟩) (by assumption) ?_
    rotate_left
    · intro w hSw; (try dsimp only at hSw); go_simp; try with_reducible rfl
    try simp only [put_y]
    try simp only [Act.put]
    try simp only [put_z]
    refine wpAnyH_take (i := 19) (v := ?_) rfl (by kernel_rfl) (by kernel_rfl) (by kernel_rfl) (fun _ _ _ h => h) (Or.inl ⟨by rfl, ?_⟩) (by assumption) ?_
    rotate_left
    · intro w hSw; (try dsimp only at hSw); go_simp; try with_reducible rfl
    try simp only [put_y]
    try simp only [Act.put]
    try simp only [put_z]
    refine wpAnyH_take (i := 20) (v := ?_) rfl (by kernel_rfl) (by kernel_rfl) (by kernel_rfl) (fun _ _ _ h => h) (Or.inl ⟨by rfl, ?_⟩) (by assumption) ?_
    rotate_left
    · intro w hSw; (try dsimp only at hSw); go_simp; try with_reducible rfl
    try simp only [put_y]
    try simp only [Act.put]
    try simp only [put_z]
    refine wpAnyH_take (i := 22) (v := ?_) rfl (by kernel_rfl) (by kernel_rfl) (by kernel_rfl) (fun _ _ _ h => h) (Or.inl ⟨by rfl, ?_⟩) (by assumption) ?_
    rotate_left
    · intro w hSw; (try dsimp only at hSw); go_simp; try with_reducible rfl
    try simp only [put_y]
    try simp only [Act.put]
    try simp only [put_z]
    refine wpAnyH_take (i := 23) (v := ?_) rfl (by kernel_rfl) (by kernel_rfl) (by kernel_rfl) (fun _ _ _ h => h) (Or.inl ⟨by rfl, ?_⟩) (by assumption) ?_
    rotate_left
    · intro w hSw; (try dsimp only at hSw); go_simp; try with_reducible rfl
    try simp only [put_y]
    try simp only [Act.put]
    try simp only [put_z]
    refine wpAnyH_take (i := 27) (v := ?_) rfl (by kernel_rfl) (by kernel_rfl) (by kernel_rfl) (fun _ _ _ h => h) (Or.inl ⟨by rfl, ?_⟩) (by assumption) ?_
    rotate_left
    · intro w hSw; (try dsimp only at hSw); go_simp; try with_reducible rfl
    try simp only [put_y]
    try simp only [Act.put]
    try simp only [put_z]
    refine wpAnyH_take (i := 28) (v := ?_) rfl (by kernel_rfl) (by kernel_rfl) (by kernel_rfl) (fun _ _ _ h => h) (Or.inl ⟨by rfl, ?_⟩) (by assumption) ?_
    rotate_left
    · intro w hSw; (try dsimp only at hSw); go_simp; try with_reducible rfl
    try simp only [put_y]
    try simp only [Act.put]
    try simp only [put_z]
    refine wpAnyH_take (i := 30) (v := ?_) rfl (by kernel_rfl) (by kernel_rfl) (by kernel_rfl) (fun _ _ _ h => h) (Or.inl ⟨by rfl, ?_⟩) (by assumption) ?_
    rotate_left
    · intro w hSw; (try dsimp only at hSw); go_simp; try with_reducible rfl
    try simp only [put_y]
    try simp only [Act.put]
    try simp only [put_z]
    refine wpAnyH_take (i := 31) (v := ?_) rfl (by kernel_rfl) (by kernel_rfl) (by kernel_rfl) (fun _ _ _ h => h) (Or.inl ⟨by rfl, ?_⟩) (by assumption) ?_
    rotate_left
    · intro w hSw; (try dsimp only at hSw); go_simp; try with_reducible rfl
    try simp only [put_y]
    try simp only [Act.put]
    try simp only [put_z]
    refine wpAnyH_take (i := 36) (v := ?_) rfl (by kernel_rfl) (by kernel_rfl) (by kernel_rfl) (fun _ _ _ h => h) (Or.inl ⟨by rfl, ?_⟩) (by assumption) ?_
    rotate_left
    · intro w hSw; (try dsimp only at hSw); go_simp; try with_reducible rfl
    try simp only [put_y]
    try simp only [Act.put]
    try simp only [put_z]
    refine wpAnyH_take (i := 37) (v := ?_) rfl (by kernel_rfl) (by kernel_rfl) (by kernel_rfl) (fun _ _ _ h => h) (Or.inl ⟨by rfl, ?_⟩) (by assumption) ?_
    rotate_left
    · intro w hSw; (try dsimp only at hSw); go_simp; try with_reducible rfl
    try simp only [put_y]
    try simp only [Act.put]
    try simp only [put_z]
    refine wpAnyH_take (i := 39) (v := ?_) rfl (by kernel_rfl) (by kernel_rfl) (by kernel_rfl) (fun _ _ _ h => h) (Or.inl ⟨by rfl, ?_⟩) (by assumption) ?_
    rotate_left
    · intro w hSw; (try dsimp only at hSw); go_simp; try with_reducible rfl
    try simp only [put_y]
    try simp only [Act.put]
    try simp only [put_z]
    refine wpAnyH_take (i := 41) (v := ?_) rfl (by kernel_rfl) (by kernel_rfl) (by kernel_rfl) (fun _ _ _ h => h) (Or.inl ⟨by rfl, ?_⟩) (by assumption) ?_
    rotate_left
    · intro w hSw; (try dsimp only at hSw); go_simp; try with_reducible rfl
    try simp only [put_y]
    try simp only [Act.put]
    try simp only [put_z]
    refine wpAnyH_take (i := 42) (v := ?_) rfl (by kernel_rfl) (by kernel_rfl) (by kernel_rfl) (fun _ _ _ h => h) (Or.inl ⟨by rfl, ?_⟩) (by assumption) ?_
    rotate_left
    · intro w hSw; (try dsimp only at hSw); go_simp; try with_reducible rfl
    try simp only [put_y]
    try simp only [Act.put]
    try simp only [put_z]
    refine wpAnyH_take (i := 43) (v := ?_) rfl (by kernel_rfl) (by kernel_rfl) (by kernel_rfl) (fun _ _ _ h => h) (Or.inl ⟨by rfl, ?_⟩) (by assumption) ?_
    rotate_left
    · intro w hSw; (try dsimp only at hSw); go_simp; try with_reducible rfl
    try simp only [put_y]
    try simp only [Act.put]
    try simp only [put_z]
    refine wpAnyH_take (i := 47) (v := ?_) rfl (by kernel_rfl) (by kernel_rfl) (by kernel_rfl) (fun _ _ _ h => h) (Or.inl ⟨by rfl, ?_⟩) (by assumption) ?_
    rotate_left
    · intro w hSw; (try dsimp only at hSw); go_simp; try with_reducible rfl
    try simp only [put_y]
    try simp only [Act.put]
    try simp only [put_z]
    refine wpAnyH_take (i := 48) (v := ?_) rfl (by kernel_rfl) (by kernel_rfl) (by kernel_rfl) (fun _ _ _ h => h) (Or.inl ⟨by rfl, ?_⟩) (by assumption) ?_
    rotate_left
    · intro w hSw; (try dsimp only at hSw); go_simp; try with_reducible rfl
    try simp only [put_y]
    try simp only [Act.put]
    try simp only [put_z]
    refine wpAnyH_take (i := 52) (v := ?_) rfl (by kernel_rfl) (by kernel_rfl) (by kernel_rfl) (fun _ _ _ h => h) (Or.inl ⟨by rfl, ?_⟩) (by assumption) ?_
    rotate_left
    · intro w hSw; (try dsimp only at hSw); go_simp; try with_reducible rfl
    try simp only [put_y]
    try simp only [Act.put]
    try simp only [put_z]
    refine wpAnyH_take (i := 53) (v := ?_) rfl (by kernel_rfl) (by kernel_rfl) (by kernel_rfl) (fun _ _ _ h => h) (Or.inl ⟨by rfl, ?_⟩) (by assumption) ?_
    rotate_left
    · intro w hSw; (try dsimp only at hSw); go_simp; try with_reducible rfl
    try simp only [put_y]
    try simp only [Act.put]
    try simp only [put_z]
    refine wpAnyH_take (i := 54) (v := ?_) rfl (by kernel_rfl) (by kernel_rfl) (by kernel_rfl) (fun _ _ _ h => h) (Or.inl ⟨by rfl, ?_⟩) (by assumption) ?_
    rotate_left
    · intro w hSw; (try dsimp only at hSw); go_simp; try with_reducible rfl
    try simp only [put_y]
    try simp only [Act.put]
    try simp only [put_z]
    refine wpAnyH_facts (fuel := 1) [2, 5, 6, 9, 12, 13, 17, 18, 21, 24, 25, 26, 29, 32, 33, 34, 35, 38, 40, 44, 45, 46, 49, 50, 51, 55, 56, 57, 58] [38, 41, 42, 45, 48, 49, 53, 54, 57, 60, 61, 62, 65, 68, 69, 70, 71, 74, 76, 80, 81, 82, 85, 86, 87, 91, 92, 93, 94] lS2 (fun w w' => Upd Non w w') (lV2 p q r) (fun _ _ _ => False) (by kernel_rfl) (by decide) hHeld Upd.refl (fun _ _ h k => h.then_non k) ?_ (fun _ _ h => h.size) (fun _ _ _ _ _ _ h => h) ?_ ?_
    · intro i hi g g' w w' _ hR hs hV
      simp only [List.mem_cons, List.not_mem_nil, or_false] at hi
      rcases hi with rfl | rfl | rfl | rfl | rfl | rfl | rfl | rfl | rfl | rfl | rfl | rfl | rfl | rfl | rfl | rfl | rfl | rfl | rfl | rfl | rfl | rfl | rfl | rfl | rfl | rfl | rfl | rfl | rfl <;> (simp only [lS2, List.mem_cons, List.not_mem_nil, or_false, forall_eq] at hs; simp only [lV2, hs] at hV ⊢; exact hV.upd hR)
    · have hSk := HSK.out
      intro i hi
      simp only [List.mem_cons, List.not_mem_nil, or_false] at hi
      rcases hi with rfl | rfl | rfl | rfl | rfl | rfl | rfl | rfl | rfl | rfl | rfl | rfl | rfl | rfl | rfl | rfl | rfl | rfl | rfl | rfl | rfl | rfl | rfl | rfl | rfl | rfl | rfl | rfl | rfl
      · refine StepF.of rfl (fun g w1 hR hS hd K hK => ?_)
        simp only [put_y] at hK ⊢
        clear hd
        simp only [mkA, List.foldl_cons, List.foldl_nil, put_z] at hK ⊢
        go_simp
        refine (op_c w1 4 p q (fun _ => True) (fun _ => True) Kp Kq kp kq (PtK.upd (uE.then_non hR) (fun _ _ _ f => f) _ _ _ hP) (PtK.upd (uE.then_non hR) (fun _ _ _ f => f) _ _ _ hQ)).mono ?_
        rintro e w2 ⟨K, kc, rfl, hk, hu⟩
        go_wp2_with fail
        refine hK.out _ _ hu (hSk _ _ hu hS) ?_ (fun _ h => h.elim)
        show IsP w2 _ _
        rw [upd_at]
        exact ⟨K, kc, rfl, hk.mono (fun _ _ _ => trivial) _ _ _⟩
      · refine StepF.of rfl (fun g w1 hR hS hd K hK => ?_)
        simp only [put_y] at hK ⊢
        clear hd
        simp only [mkA, List.foldl_cons, List.foldl_nil, put_z] at hK ⊢
        go_simp
        refine (op_c w1 4 q p (fun _ => True) (fun _ => True) Kq Kp kq kp (PtK.upd (uE.then_non hR) (fun _ _ _ f => f) _ _ _ hQ) (PtK.upd (uE.then_non hR) (fun _ _ _ f => f) _ _ _ hP)).mono ?_
        rintro e w2 ⟨K, kc, rfl, hk, hu⟩
        go_wp2_with fail
        refine hK.out _ _ hu (hSk _ _ hu hS) ?_ (fun _ h => h.elim)
        show IsP w2 _ _
        rw [upd_at]
        exact ⟨K, kc, rfl, hk.mono (fun _ _ _ => trivial) _ _ _⟩
      · refine StepF.of rfl (fun g w1 hR hS hd K hK => ?_)
        simp only [put_y] at hK ⊢
        obtain ⟨K2, k2, e2, h2⟩ : IsP w1 (opP 4 p q) (g 38) := hd 2 (by kernel_rfl)
        obtain ⟨K5, k5, e5, h5⟩ : IsP w1 (opP 4 q p) (g 41) := hd 5 (by kernel_rfl)
        unfold pv at e2 e5
        clear hd
        simp only [mkA, List.foldl_cons, List.foldl_nil, put_z, e2, e5] at hK ⊢
        go_simp
        refine hK.out _ _ Upd.refl hS ?_ (fun _ h => h.elim)
        show IsPair w1 _ _ _
        rw [upd_at]
        exact ⟨K2, k2, K5, k5, rfl, h2, h5⟩
      · refine StepF.of rfl (fun g w1 hR hS hd K hK => ?_)
        simp only [put_y] at hK ⊢
        clear hd
        simp only [mkA, List.foldl_cons, List.foldl_nil, put_z] at hK ⊢
        go_simp
        refine (op_c w1 6 p q (fun _ => True) (fun _ => True) Kp Kq kp kq (PtK.upd (uE.then_non hR) (fun _ _ _ f => f) _ _ _ hP) (PtK.upd (uE.then_non hR) (fun _ _ _ f => f) _ _ _ hQ)).mono ?_
        rintro e w2 ⟨K, kc, rfl, hk, hu⟩
        go_wp2_with fail
        refine hK.out _ _ hu (hSk _ _ hu hS) ?_ (fun _ h => h.elim)
        show IsP w2 _ _
        rw [upd_at]
        exact ⟨K, kc, rfl, hk.mono (fun _ _ _ => trivial) _ _ _⟩
      · refine StepF.of rfl (fun g w1 hR hS hd K hK => ?_)
        simp only [put_y] at hK ⊢
        clear hd
        simp only [mkA, List.foldl_cons, List.foldl_nil, put_z] at hK ⊢
        go_simp
        refine (op_c w1 6 q p (fun _ => True) (fun _ => True) Kq Kp kq kp (PtK.upd (uE.then_non hR) (fun _ _ _ f => f) _ _ _ hQ) (PtK.upd (uE.then_non hR) (fun _ _ _ f => f) _ _ _ hP)).mono ?_
        rintro e w2 ⟨K, kc, rfl, hk, hu⟩
        go_wp2_with fail
        refine hK.out _ _ hu (hSk _ _ hu hS) ?_ (fun _ h => h.elim)
        show IsP w2 _ _
        rw [upd_at]
        exact ⟨K, kc, rfl, hk.mono (fun _ _ _ => trivial) _ _ _⟩
      · refine StepF.of rfl (fun g w1 hR hS hd K hK => ?_)
        simp only [put_y] at hK ⊢
        obtain ⟨K9, k9, e9, h9⟩ : IsP w1 (opP 6 p q) (g 45) := hd 9 (by kernel_rfl)
        obtain ⟨K12, k12, e12, h12⟩ : IsP w1 (opP 6 q p) (g 48) := hd 12 (by kernel_rfl)
        unfold pv at e9 e12
        clear hd
        simp only [mkA, List.foldl_cons, List.foldl_nil, put_z, e9, e12] at hK ⊢
        go_simp
        refine hK.out _ _ Upd.refl hS ?_ (fun _ h => h.elim)
        show IsPair w1 _ _ _
        rw [upd_at]
        exact ⟨K9, k9, K12, k12, rfl, h9, h12⟩
      · refine StepF.of rfl (fun g w1 hR hS hd K hK => ?_)
        simp only [put_y] at hK ⊢
        clear hd
        simp only [mkA, List.foldl_cons, List.foldl_nil, put_z] at hK ⊢
        go_simp
        refine (op_c w1 4 q r (fun _ => True) (fun _ => True) Kq Kr kq kr (PtK.upd (uE.then_non hR) (fun _ _ _ f => f) _ _ _ hQ) (PtK.upd (uE.then_non hR) (fun _ _ _ f => f) _ _ _ hR3)).mono ?_
        rintro e w2 ⟨K, kc, rfl, hk, hu⟩
        go_wp2_with fail
        refine hK.out _ _ hu (hSk _ _ hu hS) ?_ (fun _ h => h.elim)
        show IsP w2 _ _
        rw [upd_at]
        exact ⟨K, kc, rfl, hk.mono (fun _ _ _ => trivial) _ _ _⟩
      · refine StepF.of rfl (fun g w1 hR hS hd K hK => ?_)
        simp only [put_y] at hK ⊢
        obtain ⟨K17, k17, e17, h17⟩ : IsP w1 (opP 4 q r) (g 53) := hd 17 (by kernel_rfl)
        unfold pv at e17
        clear hd
        simp only [mkA, List.foldl_cons, List.foldl_nil, put_z, e17] at hK ⊢
        go_simp
        refine (op_c w1 6 p (opP 4 q r) (fun _ => True) (fun _ => True) Kp K17 kp k17 (PtK.upd (uE.then_non hR) (fun _ _ _ f => f) _ _ _ hP) h17).mono ?_
        rintro e w2 ⟨K, kc, rfl, hk, hu⟩
        go_wp2_with fail
        refine hK.out _ _ hu (hSk _ _ hu hS) ?_ (fun _ h => h.elim)
        show IsP w2 _ _
        rw [upd_at]
        exact ⟨K, kc, rfl, hk.mono (fun _ _ _ => trivial) _ _ _⟩
      · refine StepF.of rfl (fun g w1 hR hS hd K hK => ?_)
        simp only [put_y] at hK ⊢
        clear hd
        simp only [mkA, List.foldl_cons, List.foldl_nil, put_z] at hK ⊢
        go_simp
        refine (op_c w1 6 p q (fun _ => True) (fun _ => True) Kp Kq kp kq (PtK.upd (uE.then_non hR) (fun _ _ _ f => f) _ _ _ hP) (PtK.upd (uE.then_non hR) (fun _ _ _ f => f) _ _ _ hQ)).mono ?_
        rintro e w2 ⟨K, kc, rfl, hk, hu⟩
        go_wp2_with fail
        refine hK.out _ _ hu (hSk _ _ hu hS) ?_ (fun _ h => h.elim)
        show IsP w2 _ _
        rw [upd_at]
        exact ⟨K, kc, rfl, hk.mono (fun _ _ _ => trivial) _ _ _⟩
      · refine StepF.of rfl (fun g w1 hR hS hd K hK => ?_)
        simp only [put_y] at hK ⊢
        clear hd
        simp only [mkA, List.foldl_cons, List.foldl_nil, put_z] at hK ⊢
        go_simp
        refine (op_c w1 6 p r (fun _ => True) (fun _ => True) Kp Kr kp kr (PtK.upd (uE.then_non hR) (fun _ _ _ f => f) _ _ _ hP) (PtK.upd (uE.then_non hR) (fun _ _ _ f => f) _ _ _ hR3)).mono ?_
        rintro e w2 ⟨K, kc, rfl, hk, hu⟩
        go_wp2_with fail
        refine hK.out _ _ hu (hSk _ _ hu hS) ?_ (fun _ h => h.elim)
        show IsP w2 _ _
        rw [upd_at]
        exact ⟨K, kc, rfl, hk.mono (fun _ _ _ => trivial) _ _ _⟩
      · refine StepF.of rfl (fun g w1 hR hS hd K hK => ?_)
        simp only [put_y] at hK ⊢
        obtain ⟨K21, k21, e21, h21⟩ : IsP w1 (opP 6 p q) (g 57) := hd 21 (by kernel_rfl)
        obtain ⟨K24, k24, e24, h24⟩ : IsP w1 (opP 6 p r) (g 60) := hd 24 (by kernel_rfl)
        unfold pv at e21 e24
        clear hd
        simp only [mkA, List.foldl_cons, List.foldl_nil, put_z, e21, e24] at hK ⊢
        go_simp
        refine (op_c w1 4 (opP 6 p q) (opP 6 p r) (fun _ => True) (fun _ => True) K21 K24 k21 k24 h21 h24).mono ?_
        rintro e w2 ⟨K, kc, rfl, hk, hu⟩
        go_wp2_with fail
        refine hK.out _ _ hu (hSk _ _ hu hS) ?_ (fun _ h => h.elim)
        show IsP w2 _ _
        rw [upd_at]
        exact ⟨K, kc, rfl, hk.mono (fun _ _ _ => trivial) _ _ _⟩
      · refine StepF.of rfl (fun g w1 hR hS hd K hK => ?_)
        simp only [put_y] at hK ⊢
        obtain ⟨K18, k18, e18, h18⟩ : IsP w1 (opP 6 p (opP 4 q r)) (g 54) := hd 18 (by kernel_rfl)
        obtain ⟨K25, k25, e25, h25⟩ : IsP w1 (opP 4 (opP 6 p q) (opP 6 p r)) (g 61) := hd 25 (by kernel_rfl)
        unfold pv at e18 e25
        clear hd
        simp only [mkA, List.foldl_cons, List.foldl_nil, put_z, e18, e25] at hK ⊢
        go_simp
        refine hK.out _ _ Upd.refl hS ?_ (fun _ h => h.elim)
        show IsPair w1 _ _ _
        rw [upd_at]
        exact ⟨K18, k18, K25, k25, rfl, h18, h25⟩
      · refine StepF.of rfl (fun g w1 hR hS hd K hK => ?_)
        simp only [put_y] at hK ⊢
        clear hd
        simp only [mkA, List.foldl_cons, List.foldl_nil, put_z] at hK ⊢
        go_simp
        refine (op_c w1 5 p q (fun _ => True) (fun _ => True) Kp Kq kp kq (PtK.upd (uE.then_non hR) (fun _ _ _ f => f) _ _ _ hP) (PtK.upd (uE.then_non hR) (fun _ _ _ f => f) _ _ _ hQ)).mono ?_
        rintro e w2 ⟨K, kc, rfl, hk, hu⟩
        go_wp2_with fail
        refine hK.out _ _ hu (hSk _ _ hu hS) ?_ (fun _ h => h.elim)
        show IsP w2 _ _
        rw [upd_at]
        exact ⟨K, kc, rfl, hk.mono (fun _ _ _ => trivial) _ _ _⟩
      · refine StepF.of rfl (fun g w1 hR hS hd K hK => ?_)
        simp only [put_y] at hK ⊢
        clear hd
        simp only [mkA, List.foldl_cons, List.foldl_nil, put_z] at hK ⊢
        go_simp
        have uA : ∀ o, Upd Non w1 (w1.alloc o) := fun o => Upd.refl.alloc o
        refine hK.out _ _ (uA _) (hSk _ _ (uA _) hS) ?_ (fun _ h => h.elim)
        show IsSl1 _ _ _
        rw [upd_at]
        exact ⟨w1.heap.size, rfl, Kq, kq, Blk.new _ _ _, PtK.upd (uA _) (fun _ _ _ f => f) _ _ _ (PtK.upd (uE.then_non hR) (fun _ _ _ f => f) _ _ _ hQ)⟩
      · refine StepF.of rfl (fun g w1 hR hS hd K hK => ?_)
        simp only [put_y] at hK ⊢
        obtain ⟨b32, e32, K32, k32, h32, g32⟩ : IsSl1 w1 q (g 68) := hd 32 (by kernel_rfl)
        clear hd
        simp only [mkA, List.foldl_cons, List.foldl_nil, put_z, e32] at hK ⊢
        go_simp
        refine hK.out _ _ Upd.refl hS ?_ (fun _ h => h.elim)
        show IsP w1 _ _
        rw [upd_at]
        exact ⟨some ⟨b32, 0, none⟩, 1, rfl, PtK.one _ _ _ _ h32 g32 trivial (by decide)⟩
      · refine StepF.of rfl (fun g w1 hR hS hd K hK => ?_)
        simp only [put_y] at hK ⊢
        obtain ⟨K33, k33, e33, h33⟩ : IsP w1 (unP 20 q) (g 69) := hd 33 (by kernel_rfl)
        unfold pv at e33
        clear hd
        simp only [mkA, List.foldl_cons, List.foldl_nil, put_z, e33] at hK ⊢
        go_simp
        refine (op_c w1 4 p (unP 20 q) (fun _ => True) (fun _ => True) Kp K33 kp k33 (PtK.upd (uE.then_non hR) (fun _ _ _ f => f) _ _ _ hP) h33).mono ?_
        rintro e w2 ⟨K, kc, rfl, hk, hu⟩
        go_wp2_with fail
        refine hK.out _ _ hu (hSk _ _ hu hS) ?_ (fun _ h => h.elim)
        show IsP w2 _ _
        rw [upd_at]
        exact ⟨K, kc, rfl, hk.mono (fun _ _ _ => trivial) _ _ _⟩
      · refine StepF.of rfl (fun g w1 hR hS hd K hK => ?_)
        simp only [put_y] at hK ⊢
        obtain ⟨K29, k29, e29, h29⟩ : IsP w1 (opP 5 p q) (g 65) := hd 29 (by kernel_rfl)
        obtain ⟨K34, k34, e34, h34⟩ : IsP w1 (opP 4 p (unP 20 q)) (g 70) := hd 34 (by kernel_rfl)
        unfold pv at e29 e34
        clear hd
        simp only [mkA, List.foldl_cons, List.foldl_nil, put_z, e29, e34] at hK ⊢
        go_simp
        refine hK.out _ _ Upd.refl hS ?_ (fun _ h => h.elim)
        show IsPair w1 _ _ _
        rw [upd_at]
        exact ⟨K29, k29, K34, k34, rfl, h29, h34⟩
      · refine StepF.of rfl (fun g w1 hR hS hd K hK => ?_)
        simp only [put_y] at hK ⊢
        clear hd
        simp only [mkA, List.foldl_cons, List.foldl_nil, put_z] at hK ⊢
        go_simp
        refine (op_c w1 6 p q (fun _ => True) (fun _ => True) Kp Kq kp kq (PtK.upd (uE.then_non hR) (fun _ _ _ f => f) _ _ _ hP) (PtK.upd (uE.then_non hR) (fun _ _ _ f => f) _ _ _ hQ)).mono ?_
        rintro e w2 ⟨K, kc, rfl, hk, hu⟩
        go_wp2_with fail
        refine hK.out _ _ hu (hSk _ _ hu hS) ?_ (fun _ h => h.elim)
        show IsP w2 _ _
        rw [upd_at]
        exact ⟨K, kc, rfl, hk.mono (fun _ _ _ => trivial) _ _ _⟩
      · refine StepF.of rfl (fun g w1 hR hS hd K hK => ?_)
        simp only [put_y] at hK ⊢
        obtain ⟨K38, k38, e38, h38⟩ : IsP w1 (opP 6 p q) (g 74) := hd 38 (by kernel_rfl)
        unfold pv at e38
        clear hd
        simp only [mkA, List.foldl_cons, List.foldl_nil, put_z, e38] at hK ⊢
        go_simp
        refine (op_c w1 6 (opP 6 p q) r (fun _ => True) (fun _ => True) K38 Kr k38 kr h38 (PtK.upd (uE.then_non hR) (fun _ _ _ f => f) _ _ _ hR3)).mono ?_
        rintro e w2 ⟨K, kc, rfl, hk, hu⟩
        go_wp2_with fail
        refine hK.out _ _ hu (hSk _ _ hu hS) ?_ (fun _ h => h.elim)
        show IsP w2 _ _
        rw [upd_at]
        exact ⟨K, kc, rfl, hk.mono (fun _ _ _ => trivial) _ _ _⟩
      · refine StepF.of rfl (fun g w1 hR hS hd K hK => ?_)
        simp only [put_y] at hK ⊢
        clear hd
        simp only [mkA, List.foldl_cons, List.foldl_nil, put_z] at hK ⊢
        go_simp
        refine (op_c w1 6 q r (fun _ => True) (fun _ => True) Kq Kr kq kr (PtK.upd (uE.then_non hR) (fun _ _ _ f => f) _ _ _ hQ) (PtK.upd (uE.then_non hR) (fun _ _ _ f => f) _ _ _ hR3)).mono ?_
        rintro e w2 ⟨K, kc, rfl, hk, hu⟩
        go_wp2_with fail
        refine hK.out _ _ hu (hSk _ _ hu hS) ?_ (fun _ h => h.elim)
        show IsP w2 _ _
        rw [upd_at]
        exact ⟨K, kc, rfl, hk.mono (fun _ _ _ => trivial) _ _ _⟩
      · refine StepF.of rfl (fun g w1 hR hS hd K hK => ?_)
        simp only [put_y] at hK ⊢
        obtain ⟨K44, k44, e44, h44⟩ : IsP w1 (opP 6 q r) (g 80) := hd 44 (by kernel_rfl)
        unfold pv at e44
        clear hd
        simp only [mkA, List.foldl_cons, List.foldl_nil, put_z, e44] at hK ⊢
        go_simp
        refine (op_c w1 6 p (opP 6 q r) (fun _ => True) (fun _ => True) Kp K44 kp k44 (PtK.upd (uE.then_non hR) (fun _ _ _ f => f) _ _ _ hP) h44).mono ?_
        rintro e w2 ⟨K, kc, rfl, hk, hu⟩
        go_wp2_with fail
        refine hK.out _ _ hu (hSk _ _ hu hS) ?_ (fun _ h => h.elim)
        show IsP w2 _ _
        rw [upd_at]
        exact ⟨K, kc, rfl, hk.mono (fun _ _ _ => trivial) _ _ _⟩
      · refine StepF.of rfl (fun g w1 hR hS hd K hK => ?_)
        simp only [put_y] at hK ⊢
        obtain ⟨K40, k40, e40, h40⟩ : IsP w1 (opP 6 (opP 6 p q) r) (g 76) := hd 40 (by kernel_rfl)
        obtain ⟨K45, k45, e45, h45⟩ : IsP w1 (opP 6 p (opP 6 q r)) (g 81) := hd 45 (by kernel_rfl)
        unfold pv at e40 e45
        clear hd
        simp only [mkA, List.foldl_cons, List.foldl_nil, put_z, e40, e45] at hK ⊢
        go_simp
        refine hK.out _ _ Upd.refl hS ?_ (fun _ h => h.elim)
        show IsPair w1 _ _ _
        rw [upd_at]
        exact ⟨K40, k40, K45, k45, rfl, h40, h45⟩
      · refine StepF.of rfl (fun g w1 hR hS hd K hK => ?_)
        simp only [put_y] at hK ⊢
        clear hd
        simp only [mkA, List.foldl_cons, List.foldl_nil, put_z] at hK ⊢
        go_simp
        refine (op_c w1 5 p q (fun _ => True) (fun _ => True) Kp Kq kp kq (PtK.upd (uE.then_non hR) (fun _ _ _ f => f) _ _ _ hP) (PtK.upd (uE.then_non hR) (fun _ _ _ f => f) _ _ _ hQ)).mono ?_
        rintro e w2 ⟨K, kc, rfl, hk, hu⟩
        go_wp2_with fail
        refine hK.out _ _ hu (hSk _ _ hu hS) ?_ (fun _ h => h.elim)
        show IsP w2 _ _
        rw [upd_at]
        exact ⟨K, kc, rfl, hk.mono (fun _ _ _ => trivial) _ _ _⟩
      · refine StepF.of rfl (fun g w1 hR hS hd K hK => ?_)
        simp only [put_y] at hK ⊢
        obtain ⟨K49, k49, e49, h49⟩ : IsP w1 (opP 5 p q) (g 85) := hd 49 (by kernel_rfl)
        unfold pv at e49
        clear hd
        simp only [mkA, List.foldl_cons, List.foldl_nil, put_z, e49] at hK ⊢
        go_simp
        have uA : ∀ o, Upd Non w1 (w1.alloc o) := fun o => Upd.refl.alloc o
        refine hK.out _ _ (uA _) (hSk _ _ (uA _) hS) ?_ (fun _ h => h.elim)
        show IsSl1 _ _ _
        rw [upd_at]
        exact ⟨w1.heap.size, rfl, K49, k49, Blk.new _ _ _, PtK.upd (uA _) (fun _ _ _ f => f) _ _ _ h49⟩
      · refine StepF.of rfl (fun g w1 hR hS hd K hK => ?_)
        simp only [put_y] at hK ⊢
        obtain ⟨b50, e50, K50, k50, h50, g50⟩ : IsSl1 w1 (opP 5 p q) (g 86) := hd 50 (by kernel_rfl)
        clear hd
        simp only [mkA, List.foldl_cons, List.foldl_nil, put_z, e50] at hK ⊢
        go_simp
        refine hK.out _ _ Upd.refl hS ?_ (fun _ h => h.elim)
        show IsP w1 _ _
        rw [upd_at]
        exact ⟨some ⟨b50, 0, none⟩, 1, rfl, PtK.one _ _ _ _ h50 g50 trivial (by decide)⟩
      · refine StepF.of rfl (fun g w1 hR hS hd K hK => ?_)
        simp only [put_y] at hK ⊢
        clear hd
        simp only [mkA, List.foldl_cons, List.foldl_nil, put_z] at hK ⊢
        go_simp
        refine (op_c w1 4 p oneP (fun _ => True) (fun _ => True) Kp none kp 0 (PtK.upd (uE.then_non hR) (fun _ _ _ f => f) _ _ _ hP) PtK.leaf).mono ?_
        rintro e w2 ⟨K, kc, rfl, hk, hu⟩
        go_wp2_with fail
        refine hK.out _ _ hu (hSk _ _ hu hS) ?_ (fun _ h => h.elim)
        show IsP w2 _ _
        rw [upd_at]
        exact ⟨K, kc, rfl, hk.mono (fun _ _ _ => trivial) _ _ _⟩
      · refine StepF.of rfl (fun g w1 hR hS hd K hK => ?_)
        simp only [put_y] at hK ⊢
        obtain ⟨K55, k55, e55, h55⟩ : IsP w1 (opP 4 p oneP) (g 91) := hd 55 (by kernel_rfl)
        unfold pv at e55
        clear hd
        simp only [mkA, List.foldl_cons, List.foldl_nil, put_z, e55] at hK ⊢
        go_simp
        refine (op_c w1 5 q (opP 4 p oneP) (fun _ => True) (fun _ => True) Kq K55 kq k55 (PtK.upd (uE.then_non hR) (fun _ _ _ f => f) _ _ _ hQ) h55).mono ?_
        rintro e w2 ⟨K, kc, rfl, hk, hu⟩
        go_wp2_with fail
        refine hK.out _ _ hu (hSk _ _ hu hS) ?_ (fun _ h => h.elim)
        show IsP w2 _ _
        rw [upd_at]
        exact ⟨K, kc, rfl, hk.mono (fun _ _ _ => trivial) _ _ _⟩
      · refine StepF.of rfl (fun g w1 hR hS hd K hK => ?_)
        simp only [put_y] at hK ⊢
        obtain ⟨K51, k51, e51, h51⟩ : IsP w1 (unP 21 (opP 5 p q)) (g 87) := hd 51 (by kernel_rfl)
        obtain ⟨K56, k56, e56, h56⟩ : IsP w1 (opP 5 q (opP 4 p oneP)) (g 92) := hd 56 (by kernel_rfl)
        unfold pv at e51 e56
        clear hd
        simp only [mkA, List.foldl_cons, List.foldl_nil, put_z, e51, e56] at hK ⊢
        go_simp
        refine hK.out _ _ Upd.refl hS ?_ (fun _ h => h.elim)
        show IsPair w1 _ _ _
        rw [upd_at]
        exact ⟨K51, k51, K56, k56, rfl, h51, h56⟩
      · refine StepF.of rfl (fun g w1 hR hS hd K hK => ?_)
        simp only [put_y] at hK ⊢
        obtain ⟨KA6, ka6, KB6, kb6, e6, ga6, gb6⟩ : IsPair w1 (opP 4 p q) (opP 4 q p) (g 42) := hd 6 (by kernel_rfl)
        obtain ⟨KA13, ka13, KB13, kb13, e13, ga13, gb13⟩ : IsPair w1 (opP 6 p q) (opP 6 q p) (g 49) := hd 13 (by kernel_rfl)
        obtain ⟨KA26, ka26, KB26, kb26, e26, ga26, gb26⟩ : IsPair w1 (opP 6 p (opP 4 q r)) (opP 4 (opP 6 p q) (opP 6 p r)) (g 62) := hd 26 (by kernel_rfl)
        obtain ⟨KA35, ka35, KB35, kb35, e35, ga35, gb35⟩ : IsPair w1 (opP 5 p q) (opP 4 p (unP 20 q)) (g 71) := hd 35 (by kernel_rfl)
        obtain ⟨KA46, ka46, KB46, kb46, e46, ga46, gb46⟩ : IsPair w1 (opP 6 (opP 6 p q) r) (opP 6 p (opP 6 q r)) (g 82) := hd 46 (by kernel_rfl)
        obtain ⟨KA57, ka57, KB57, kb57, e57, ga57, gb57⟩ : IsPair w1 (unP 21 (opP 5 p q)) (opP 5 q (opP 4 p oneP)) (g 93) := hd 57 (by kernel_rfl)
        clear hd
        simp only [mkA, List.foldl_cons, List.foldl_nil, put_z, e6, e13, e26, e35, e46, e57] at hK ⊢
        go_simp
        have uA : ∀ o, Upd Non w1 (w1.alloc o) := fun o => Upd.refl.alloc o
        refine hK.out _ _ (uA _) (hSk _ _ (uA _) hS) ?_ (fun _ h => h.elim)
        show IsAll _ _ _ _ _
        rw [upd_at]
        exact ⟨w1.heap.size, rfl, isAll_of (Blk.new _ _ _) (uA _) ga6 gb6 ga13 gb13 ga26 gb26 ga35 gb35 ga46 gb46 ga57 gb57⟩
    · intro g w4 hR4 _ hV _
      obtain ⟨b, e94, hall⟩ : IsAll w4 p q r (g 94) := hV 58 (by simp)
      have HU4 := (HU3.then_non uE).then_non hR4
      clear hV hX1 hX2 hX3 hP hQ hR3 HS3 HSK hHeld
      simp only [mkA, List.foldl_cons, List.foldl_nil, put_z, e94]
      refine wpAnyH_take (i := 59) (v := ?_) rfl (by kernel_rfl) (by kernel_rfl) (by kernel_rfl) (fun _ _ _ h => h) (Or.inl ⟨by rfl, ?_⟩) (by assumption) ?_
      rotate_left
      · intro w hSw; (try dsimp only at hSw); go_simp; try with_reducible rfl
      try simp only [put_y]
      try simp only [Act.put]
      try simp only [put_z]
      refine wpAnyH_done (by kernel_rfl) ?_ _
      have CP := Lib.hid (pick_c which 6 w4 (by omega) (by omega))
      obtain ⟨i, hi⟩ : ∃ i : Nat, which % 6 = (i : Int) := Int.eq_ofNat_of_zero_le (by omega)
      have hi6 : i < 6 := by omega
      rw [hi] at CP
      obtain ⟨⟨KL, kl, l0, l1, l2, l3, l4, hl⟩, KR, kr', r0, r1, r2, r3, r4, hrr⟩ := hall i hi6
      have HSZ := Lib.hid (lhs_size hps hqs hrs i)
      have HSM := Lib.hid (fun h1 h2 a b => @laws_same p q r hp hq hr i h1 h2 a b)
      clear hall hi
      generalize lhsP p q r i = L at *
      generalize rhsP p q r i = R at *
      have hw10 : ((i : Int) * 10).toNat = i * 10 := by omega
      go_wp2_with fail
      refine CP.out.mono ?_
      rintro e w5 ⟨rfl, rfl⟩
      obtain ⟨W5, HW5⟩ := nm (w4.alloc (.cells #[.int .i64 L.v, .int .i64 L.op, .int .i64 L.imm, .int .i64 L.iv, .slice KL L.kids.length kl, .int .i64 R.v, .int .i64 R.op, .int .i64 R.imm, .int .i64 R.iv, .slice KR R.kids.length kr'] 42))
      have e5 := HW5.out
      have u5 : Upd Non w4 W5 := by rw [← e5]; exact Upd.refl.alloc _
      have hb5 : Blk W5 w4.heap.size 42 #[.int .i64 L.v, .int .i64 L.op, .int .i64 L.imm, .int .i64 L.iv, .slice KL L.kids.length kl, .int .i64 R.v, .int .i64 R.op, .int .i64 R.imm, .int .i64 R.iv, .slice KR R.kids.length kr'] := by rw [← e5]; exact Blk.new _ _ _
      have hl5 := PtK.upd u5 (fun _ _ _ f => f) _ _ _ hl
      have hr5 := PtK.upd u5 (fun _ _ _ f => f) _ _ _ hrr
      have HU5 := HU4.then_non u5
      have hsL := HSZ.out.1
      have hsR := HSZ.out.2
      have d0 := hb5.cell 0
      have d1 := hb5.cell 1
      have d2 := hb5.cell 2
      have d3 := hb5.cell 3
      have d4 := hb5.cell 4
      have d5 := hb5.cell 5
      have d6 := hb5.cell 6
      have d7 := hb5.cell 7
      have d8 := hb5.cell 8
      have d9 := hb5.cell 9
      have CV := Lib.hid (r15Valid_c L W5 _ KL kl 3 0 hl5 (by omega))
      have CW := Lib.hid (fun w' (u : Upd Non W5 w') => r15Valid_c R w' _ KR kr' 3 0 (PtK.upd u (fun _ _ _ f => f) _ _ _ hr5) (by omega))
      unfold pv at CV CW
      obtain ⟨vl, Hvl⟩ := nm (validF L 3 0)
      obtain ⟨vr, Hvr⟩ := nm (validF R 3 0)
      rw [Hvl.out] at CV
      rw [Hvr.out] at CW
      clear CP u5 hl hrr
      cases vl with
      | false =>
        go_wp2_with fail
        refine CV.out.mono ?_
        rintro e w6 ⟨rfl, hu6⟩
        have CE := Lib.hid (poExamples_c w6)
        go_wp2_with fail
        refine CE.out.mono ?_
        rintro e w7 ⟨rfl, hu7⟩
        go_wp2_with fail
        go_ret
        exact ⟨rfl, (HU5.then_non hu6).then_non hu7⟩
      | true =>
        cases vr with
        | false =>
          go_wp2_with fail
          refine CV.out.mono ?_
          rintro e w6 ⟨rfl, hu6⟩
          have d5 := cell_upd d5 hu6 (fun f => f)
          have d6 := cell_upd d6 hu6 (fun f => f)
          have d7 := cell_upd d7 hu6 (fun f => f)
          have d8 := cell_upd d8 hu6 (fun f => f)
          have d9 := cell_upd d9 hu6 (fun f => f)
          go_wp2_with fail
          refine (CW.out _ hu6).mono ?_
          rintro e w7 ⟨rfl, hu7⟩
          have CE := Lib.hid (poExamples_c w7)
          go_wp2_with fail
          refine CE.out.mono ?_
          rintro e w8 ⟨rfl, hu8⟩
          go_wp2_with fail
          go_ret
          exact ⟨rfl, ((HU5.then_non hu6).then_non hu7).then_non hu8⟩
        | true =>
          have CNL := Lib.hid (fun w' (u : Upd Non W5 w') => normU_c L w' _ KL kl 3 (PtK.upd u (fun _ _ _ f => f) _ _ _ hl5) (by omega))
          have CNR := Lib.hid (fun w' (u : Upd Non W5 w') => normU_c R w' _ KR kr' 3 (PtK.upd u (fun _ _ _ f => f) _ _ _ hr5) (by omega))
          unfold pv at CNL CNR
          go_wp2_with fail
          refine CV.out.mono ?_
          rintro e w6 ⟨rfl, hu6⟩
          have d5' := cell_upd d5 hu6 (fun f => f)
          have d6' := cell_upd d6 hu6 (fun f => f)
          have d7' := cell_upd d7 hu6 (fun f => f)
          have d8' := cell_upd d8 hu6 (fun f => f)
          have d9' := cell_upd d9 hu6 (fun f => f)
          go_wp2_with fail
          refine (CW.out _ hu6).mono ?_
          rintro e w7 ⟨rfl, hu7⟩
          have u57 := hu6.then_non hu7
          have d0' := cell_upd d0 u57 (fun f => f)
          have d1' := cell_upd d1 u57 (fun f => f)
          have d2' := cell_upd d2 u57 (fun f => f)
          have d3' := cell_upd d3 u57 (fun f => f)
          have d4' := cell_upd d4 u57 (fun f => f)
          go_wp2_with fail
          refine (CNL.out _ u57).mono ?_
          rintro e w8 ⟨r1, A1, n1, rfl, hv1, hz1, hu8⟩
          have u58 := u57.then_non hu8
          have c5' := cell_upd d5 u58 (fun f => f)
          have c6' := cell_upd d6 u58 (fun f => f)
          have c7' := cell_upd d7 u58 (fun f => f)
          have c8' := cell_upd d8 u58 (fun f => f)
          have c9' := cell_upd d9 u58 (fun f => f)
          go_wp2_with fail
          refine (CNR.out _ u58).mono ?_
          rintro e w9 ⟨r2, A2, n2, rfl, hv2, hz2, hu9⟩
          obtain ⟨hs1, hs2, hrm⟩ := HSM.out Hvl.out Hvr.out r1 r2 hz1 hz2
          rw [← hrm] at hv2
          rw [← hrm, hs1, hs2]
          have C7 := Lib.hid (samePoly_c w9 _ _ A1 A2 n1 n2 (mns r1) (mns r1) (hv1.upd hu9 (fun _ _ _ f => f)) hv2 (fun m hm => by have := hz1.2.1 m hm; omega) (by have := hz1.1; omega))
          obtain ⟨m1, Hm1⟩ := nm (mns r1).length
          rw [Hm1.out] at C7
          rw [Hm1.out]
          rw [show decide (mns r1 = mns r1) = true from decide_eq_true rfl] at C7
          have HU9 := (HU5.then_non u58).then_non hu9
          clear CNL CNR CV CW hv1 hv2 hz1 hz2 hrm hs1 hs2 c5' c6' c7' c8' c9' d0 d1 d2 d3 d4 d5 d6 d7 d8 d9 d0' d1' d2' d3' d4' d5' d6' d7' d8' d9'
          go_wp2_with fail
          refine C7.out.mono ?_
          rintro e w10 ⟨rfl, hu10⟩
          have C8 := Lib.hid (poExamples_c w10)
          go_wp2_with fail
          refine C8.out.mono ?_
          rintro e w11 ⟨rfl, hu11⟩
          go_wp2_with fail
          go_ret
          exact ⟨rfl, (HU9.then_non hu10).then_non hu11⟩
end Go.Proofs.Ytnefhokojbkppaa
