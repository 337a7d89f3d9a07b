/-
  Patterns as they lie in memory; what pattern.Size does.
-/
import Derived.Test.YtnefhokojbkppaaGe
import Derived.Test.YtnefhokojbkppaaAppF
import Derived.Test.YtnefhokojbkppaaScalA
namespace Go.Proofs.Ytnefhokojbkppaa
open Go.RowKit

/-- A pattern: variable, operation, immediate operand, immediate variable, operands. -/
inductive Pt where
  | mk (v op imm iv : Int) (kids : List Pt)
def Pt.v : Pt → Int | .mk v _ _ _ _ => v
def Pt.op : Pt → Int | .mk _ op _ _ _ => op
def Pt.imm : Pt → Int | .mk _ _ imm _ _ => imm
def Pt.iv : Pt → Int | .mk _ _ _ iv _ => iv
def Pt.kids : Pt → List Pt | .mk _ _ _ _ kids => kids
mutual
def Pt.size : Pt → Nat
  | .mk _ _ _ _ kids => 1 + Pt.sizeL kids
def Pt.sizeL : List Pt → Nat
  | [] => 0
  | k :: ks => k.size + Pt.sizeL ks
end
theorem Pt.size_eq (p : Pt) : p.size = 1 + Pt.sizeL p.kids := by cases p; simp only [Pt.size, Pt.kids]
theorem Pt.sizeL_take : ∀ (l : List Pt) (k : Nat) (h : k < l.length), Pt.sizeL (l.take (k + 1)) = Pt.sizeL (l.take k) + l[k].size
  | [], k, h => absurd h (by simp)
  | a :: l, 0, h => by simp [Pt.sizeL]
  | a :: l, k + 1, h => by
    have := Pt.sizeL_take l k (by simpa using h)
    simp only [List.take_succ_cons, Pt.sizeL, List.getElem_cons_succ]
    omega
theorem Pt.sizeL_mem {k : Pt} : ∀ {l : List Pt}, k ∈ l → k.size ≤ Pt.sizeL l
  | a :: l, h => by
    simp only [Pt.sizeL]
    rcases List.mem_cons.1 h with rfl | h
    · omega
    · have := Pt.sizeL_mem h; omega
theorem Pt.sizeL_take_le : ∀ (l : List Pt) (k : Nat), Pt.sizeL (l.take k) ≤ Pt.sizeL l
  | [], k => by simp [Pt.sizeL]
  | a :: l, 0 => by simp [Pt.sizeL]
  | a :: l, k + 1 => by have := Pt.sizeL_take_le l k; simp only [List.take_succ_cons, Pt.sizeL]; omega
theorem Pt.kids_lt {p k : Pt} (h : k ∈ p.kids) : k.size < p.size := by have := Pt.sizeL_mem h; rw [Pt.size_eq p]; omega
theorem Pt.len_le : ∀ (l : List Pt), l.length ≤ Pt.sizeL l
  | [] => by simp
  | a :: l => by have := Pt.len_le l; have := Pt.size_eq a; simp only [List.length_cons, Pt.sizeL]; omega
/-- What holds of a pattern if it holds of all smaller ones, holds of all. -/
theorem Pt.ind {Q : Pt → Prop} (h : ∀ p, (∀ k ∈ p.kids, Q k) → Q p) (p : Pt) : Q p := by
  suffices ∀ n p, Pt.size p ≤ n → Q p from this _ p (Nat.le_refl _)
  intro n
  induction n with
  | zero => intro p hp; have := Pt.size_eq p; omega
  | succ n ih => intro p hp; exact h p fun k hk => ih k (by have := Pt.kids_lt hk; omega)

mutual
/-- The operands of p lie at KA (capacity kc), in blocks of F. -/
def PtK (w : World) (F : Nat → Prop) : Pt → Option Addr → Nat → Prop
  | .mk _ _ _ _ kids, KA, kc => kids.length ≤ kc ∧ (kids = [] ∨ ∃ b o, KA = some ⟨b, o, none⟩ ∧ F b ∧ PtL w F b kids o)
/-- The patterns lie at offset o of block b. -/
def PtL (w : World) (F : Nat → Prop) (b : Nat) : List Pt → Nat → Prop
  | [], _ => True
  | k :: ks, o => (∃ KA kc, w.cell? ⟨b, o, none⟩ = some (.int .i64 k.v) ∧ w.cell? ⟨b, o + 1, none⟩ = some (.int .i64 k.op) ∧ w.cell? ⟨b, o + 2, none⟩ = some (.int .i64 k.imm) ∧ w.cell? ⟨b, o + 3, none⟩ = some (.int .i64 k.iv) ∧ w.cell? ⟨b, o + 4, none⟩ = some (.slice KA k.kids.length kc) ∧ PtK w F k KA kc) ∧ PtL w F b ks (o + 5)
end
/-- Pattern k lies at offset o of block b. -/
def PtAt (w : World) (F : Nat → Prop) (b o : Nat) (k : Pt) : Prop := ∃ KA kc, w.cell? ⟨b, o, none⟩ = some (.int .i64 k.v) ∧ w.cell? ⟨b, o + 1, none⟩ = some (.int .i64 k.op) ∧ w.cell? ⟨b, o + 2, none⟩ = some (.int .i64 k.imm) ∧ w.cell? ⟨b, o + 3, none⟩ = some (.int .i64 k.iv) ∧ w.cell? ⟨b, o + 4, none⟩ = some (.slice KA k.kids.length kc) ∧ PtK w F k KA kc
section
variable {w w' : World} {F G S : Nat → Prop}
theorem PtK.iff {p : Pt} {KA : Option Addr} {kc : Nat} : PtK w F p KA kc ↔ p.kids.length ≤ kc ∧ (p.kids = [] ∨ ∃ b o, KA = some ⟨b, o, none⟩ ∧ F b ∧ PtL w F b p.kids o) := by
  cases p; simp only [PtK, Pt.kids]
theorem PtL.iff_cons {b o : Nat} {k : Pt} {ks : List Pt} : PtL w F b (k :: ks) o ↔ PtAt w F b o k ∧ PtL w F b ks (o + 5) := by simp only [PtL, PtAt]
theorem PtL.at_ {b : Nat} : ∀ {ks : List Pt} {o i : Nat}, PtL w F b ks o → ∀ (h : i < ks.length), PtAt w F b (o + i * 5) ks[i]
  | k :: ks, o, 0, h, _ => by rw [PtL.iff_cons] at h; simpa using h.1
  | k :: ks, o, i + 1, h, hi => by
    rw [PtL.iff_cons] at h
    have := PtL.at_ (i := i) h.2 (by simpa using hi)
    rw [show o + (i + 1) * 5 = o + 5 + i * 5 by omega]
    exact this
theorem PtL.of {b : Nat} : ∀ {ks : List Pt} {o : Nat}, (∀ i (h : i < ks.length), PtAt w F b (o + i * 5) ks[i]) → PtL w F b ks o
  | [], _, _ => by simp [PtL]
  | k :: ks, o, h => by
    rw [PtL.iff_cons]
    refine ⟨by have h0 := h 0 (by simp); rw [Nat.zero_mul, Nat.add_zero] at h0; exact h0, PtL.of fun i hi => ?_⟩
    have := h (i + 1) (by simpa using hi)
    rw [show o + (i + 1) * 5 = o + 5 + i * 5 by omega] at this
    exact this
theorem PtK.at_ {p : Pt} {KA : Option Addr} {kc : Nat} (h : PtK w F p KA kc) {i : Nat} (hi : i < p.kids.length) : ∃ b o, KA = some ⟨b, o, none⟩ ∧ F b ∧ b < w.heap.size ∧ PtAt w F b (o + i * 5) p.kids[i] := by
  rcases (PtK.iff.1 h).2 with e | ⟨b, o, e, hF, hl⟩
  · rw [e] at hi; simp at hi
  · have := hl.at_ hi
    obtain ⟨_, _, h0, _⟩ := id this
    exact ⟨b, o, e, hF, World.block_lt_of_cell? _ _ h0, this⟩
theorem PtK.le {p : Pt} {KA : Option Addr} {kc : Nat} (h : PtK w F p KA kc) : p.kids.length ≤ kc := (PtK.iff.1 h).1
theorem PtK.upd (u : Upd S w w') (d : ∀ k, k < w.heap.size → F k → ¬ S k) : ∀ (p : Pt) (KA : Option Addr) (kc : Nat), PtK w F p KA kc → PtK w' F p KA kc := by
  intro p
  induction p using Pt.ind with
  | h p ih =>
    intro KA kc h
    rw [PtK.iff] at h ⊢
    refine ⟨h.1, h.2.imp_right fun ⟨b, o, e, hF, hl⟩ => ⟨b, o, e, hF, PtL.of fun i hi => ?_⟩⟩
    obtain ⟨KB, kd, h0, h1, h2, h3, h4, h5⟩ := hl.at_ hi
    have hb : ¬ S b := d b (World.block_lt_of_cell? _ _ h0) hF
    exact ⟨KB, kd, cell_upd h0 u hb, cell_upd h1 u hb, cell_upd h2 u hb, cell_upd h3 u hb, cell_upd h4 u hb, ih _ (List.getElem_mem hi) KB kd h5⟩
theorem PtK.mono (hFG : ∀ k, k < w.heap.size → F k → G k) : ∀ (p : Pt) (KA : Option Addr) (kc : Nat), PtK w F p KA kc → PtK w G p KA kc := by
  intro p
  induction p using Pt.ind with
  | h p ih =>
    intro KA kc h
    rw [PtK.iff] at h ⊢
    refine ⟨h.1, ?_⟩
    rcases h.2 with e | ⟨b, o, e, hF, hl⟩
    · exact .inl e
    · by_cases h0 : p.kids = []
      · exact .inl h0
      · have hp : 0 < p.kids.length := List.length_pos_iff.2 h0
        obtain ⟨_, _, g0, _⟩ := hl.at_ hp
        refine .inr ⟨b, o, e, hFG b (World.block_lt_of_cell? _ _ g0) hF, PtL.of fun i hi => ?_⟩
        obtain ⟨KB, kd, h0, h1, h2, h3, h4, h5⟩ := hl.at_ hi
        exact ⟨KB, kd, h0, h1, h2, h3, h4, ih _ (List.getElem_mem hi) KB kd h5⟩
end
def pv (p : Pt) (KA : Option Addr) (kc : Nat) : Value := .agg #[.int .i64 p.v, .int .i64 p.op, .int .i64 p.imm, .int .i64 p.iv, .slice KA p.kids.length kc]

set_option maxHeartbeats 1000000 in
theorem ptSize_c (p : Pt) : ∀ (w : World) (F : Nat → Prop) (KA : Option Addr) (kc : Nat), PtK w F p KA kc → p.size ≤ 1000000000000 →
    Calls Try.prog 43 #[pv p KA kc] w fun e w' => e = .returned (.int .i64 (p.size : Int)) ∧ Upd Non w w' := by
  induction p using Pt.ind with
  | h p ih =>
    intro w F KA kc hp hs
    have hse := Pt.size_eq p
    have hle := Pt.len_le p.kids
    have HI := Lib.hid ih
    obtain ⟨W, HW⟩ := nm (w.alloc (.cells #[.int .i64 p.v, .int .i64 p.op, .int .i64 p.imm, .int .i64 p.iv, .slice KA p.kids.length kc] 24))
    have hU : Upd Non w W := by rw [← HW.out]; exact Upd.refl.alloc _
    have hb : Blk W w.heap.size 24 #[.int .i64 p.v, .int .i64 p.op, .int .i64 p.imm, .int .i64 p.iv, .slice KA p.kids.length kc] := by rw [← HW.out]; exact Blk.new _ _ _
    have e0 := HW.out
    have c4 := hb.cell 4
    have hpW := PtK.upd hU (fun _ _ _ f => f) p KA kc hp
    have HS := Lib.hid hse
    unfold pv
    clear ih hse hp
    obtain ⟨n, Hn⟩ := nm p.kids.length
    rw [Hn.out] at c4 hle e0
    have hn12 : n ≤ 1000000000000 := by have := HS.out; omega
    rw [Hn.out]
    go_enter Try.func43, Try.ntmps43
    go_wp2_with fail
    go_loopg [3, 5, 9] n (fun g v _ i wr => ∃ k : Nat, Hid (g = n - k) ∧ k ≤ n ∧ i = .int .i64 k ∧ v = .int .i64 ((1 + Pt.sizeL (p.kids.take k) : Nat) : Int) ∧ Upd Non W wr)
    case atStart => exact ⟨0, rfl, by omega, rfl, by simp [Pt.sizeL], Upd.refl⟩
    case round =>
      obtain ⟨k, Hg, hk, rfl, rfl, hu⟩ := hrel
      by_cases hlt : k < n
      · have hkl : k < p.kids.length := by rw [Hn.out]; exact hlt
        obtain ⟨b, o, rfl, hF, hbw, KB, kd, h0, h1, h2, h3, h4, h5⟩ := (PtK.upd hu (fun _ _ _ f => f) p KA kc hpW).at_ hkl
        have hks : p.kids[k].size ≤ 1000000000000 := by have := Pt.kids_lt (List.getElem_mem hkl); omega
        have hkk := Pt.sizeL_take p.kids k hkl
        have hkt := Pt.sizeL_take_le p.kids (k + 1)
        have hmem0 := List.getElem_mem hkl
        generalize p.kids[k] = q at *
        obtain ⟨W3, HW3⟩ := nm (wr.alloc (.cells #[.int .i64 q.v, .int .i64 q.op, .int .i64 q.imm, .int .i64 q.iv, .slice KB q.kids.length kd] 24))
        have hq := PtK.upd (Upd.refl.alloc (S := Non) (.cells #[.int .i64 q.v, .int .i64 q.op, .int .i64 q.imm, .int .i64 q.iv, .slice KB q.kids.length kd] 24)) (fun _ _ _ f => f) q KB kd h5
        have hmem : q ∈ p.kids := by assumption
        have C1 := Lib.hid (HI.out q hmem _ F KB kd hq hks)
        unfold pv at C1
        obtain ⟨z, Hz⟩ := nm (1 + Pt.sizeL (p.kids.take k))
        have hz1 : 1 + Pt.sizeL (p.kids.take (k + 1)) = z + q.size := by rw [← Hz.out]; omega
        have HZ := Lib.hid hz1
        have hz2 : z + q.size ≤ 2000000000000 := by have := HS.out; omega
        rw [Hz.out]
        clear hkk hkt hz1 h5 hq
        go_wp2_with fail
        refine C1.out.mono ?_
        rintro e w4 ⟨rfl, hu4⟩
        go_wp2_with fail
        go_roundg (n - (k + 1))
        case measure => rw [Hg.out]; omega
        case rel => exact ⟨k + 1, rfl, by omega, by go_num, by rw [HZ.out]; go_num, (hu.alloc _).then_non hu4⟩
      · obtain rfl : n = k := by omega
        have HT : Hid (1 + Pt.sizeL (p.kids.take n) = p.size) := by show _ = _; rw [HS.out, ← Hn.out]; simp
        rw [HT.out]
        go_wp2_with fail
        go_ret
        exact ⟨rfl, hU.then_non hu⟩
end Go.Proofs.Ytnefhokojbkppaa
