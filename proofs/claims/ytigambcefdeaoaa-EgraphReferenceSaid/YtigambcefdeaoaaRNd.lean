/-
  What the reference's New does: a graph of the nodes, or an error.
  What the reference's Distinct does.
-/
import Derived.Test.YtigambcefdeaoaaRGr
import Derived.Test.YtigambcefdeaoaaRRb
namespace Go.Proofs.Ytigambcefdeaoaa
open Go.RowKit

/-- While New lists the nodes: L is listed, m names are. -/
structure RN (F : Nat → Prop) (w0 w : World) (rb n : Nat) (sA : Option Addr) (sc : Nat) (S : List Int) (L : List Nd) (m : Nat) (lA fA : Option Addr) (lc fc : Nat) : Prop where
  u : Upd Non w0 w
  blk : Blk w rb 61 #[.slice lA L.length lc, .slice none 0 0, .slice fA m fc, .slice sA n sc]
  l : ∃ cs, Own w 24 3 lA L.length lc cs ∧ NodeCells w (fun k => F k ∧ k < w0.heap.size) cs L
  f : Own w 3 1 fA m fc (icells (clsN m id))
  s : Own w 3 1 sA n sc (icells S)
  hl : ∀ k, At lA k → w0.heap.size ≤ k ∧ k ≠ rb ∧ ¬ At sA k ∧ ¬ At fA k
  hf : ∀ k, At fA k → w0.heap.size ≤ k ∧ k ≠ rb ∧ ¬ At sA k
  hs : ∀ k, At sA k → w0.heap.size ≤ k ∧ k ≠ rb
  hr : w0.heap.size ≤ rb
section
variable {F : Nat → Prop} {w0 w w' : World} {rb n : Nat} {sA : Option Addr} {sc : Nat} {S : List Int} {L : List Nd} {m : Nat} {lA fA : Option Addr} {lc fc : Nat}
theorem RN.non (h : RN F w0 w rb n sA sc S L m lA fA lc fc) (u : Upd Non w w') : RN F w0 w' rb n sA sc S L m lA fA lc fc := by
  obtain ⟨cs, h1, h2⟩ := h.l
  exact ⟨h.u.then_non u, h.blk.upd u (fun f => f), ⟨cs, h1.upd u (fun _ _ f => f), h2.mono u (fun _ _ _ f => f) (fun _ _ q => q)⟩, h.f.upd u (fun _ _ f => f), h.s.upd u (fun _ _ f => f), h.hl, h.hf, h.hs, h.hr⟩
theorem RN.addL (h : RN F w0 w rb n sA sc S L m lA fA lc fc) {w8 : World} {o : Obj} {cs : List Value} {nd : Nd} {KA A8 : Option Addr} {kc c8 : Nat} (hcs : NodeCells w (fun k => F k ∧ k < w0.heap.size) cs L)
    (ho : Own w8 24 3 A8 (L.length + 1) c8 (cs ++ [.int .i64 nd.op, .int .i64 nd.imm, .slice KA nd.kids.length kc])) (hu : Upd (At lA) (w.alloc o) w8) (hat : ∀ k, At A8 k → At lA k ∨ k = (w.alloc o).heap.size)
    (hk : Ints w (fun k => F k ∧ k < w0.heap.size) KA nd.kids) (hkc : nd.kids.length ≤ kc) : RN F w0 (w8.setCell ⟨rb, 0, none⟩ (.slice A8 (L.length + 1) c8)) rb n sA sc S (L ++ [nd]) m A8 fA c8 fc := by
  have hsz := h.u.size
  have hrb := h.blk.lt
  have uA : Upd Non w (w.alloc o) := Upd.refl.alloc o
  have uC := updCell w8 rb 0 (.slice A8 (L.length + 1) c8)
  have hal : ∀ k, At A8 k → w0.heap.size ≤ k ∧ k ≠ rb ∧ ¬ At sA k ∧ ¬ At fA k := fun k hk => by
    rcases hat k hk with q | q
    · exact h.hl k q
    · have : k = w.heap.size + 1 := by simpa using q
      exact ⟨by omega, by omega, fun z => by have := h.s.lt z; omega, fun z => by have := h.f.lt z; omega⟩
  have hb8 := (h.blk.alloc o).upd hu (fun q => (h.hl rb q).2.1 rfl)
  have hU : Upd (fun k => At lA k ∨ k = rb) w (w8.setCell ⟨rb, 0, none⟩ (.slice A8 (L.length + 1) c8)) := ((uA.mono (T := fun k => At lA k ∨ k = rb) (fun _ _ f => f.elim)).trans hu (fun _ _ q => .inl q)).trans uC (fun _ _ q => .inr q)
  have hno : ∀ k, k < w0.heap.size → ¬ (At lA k ∨ k = rb) := fun k hk q => by
    rcases q with q | q
    · have := (h.hl k q).1; omega
    · have := h.hr; omega
  refine ⟨h.u.trans hU (fun k hk q => hno k hk q), ?_, ⟨cs ++ [.int .i64 nd.op, .int .i64 nd.imm, .slice KA nd.kids.length kc], ?_, ?_⟩, ?_, ?_, hal, h.hf, h.hs, h.hr⟩
  · have := hb8.set_ 0 (.slice A8 (L.length + 1) c8)
    simpa using this
  · have := ho.upd uC (fun k hk q => (hal k hk).2.1 q)
    simpa using this
  · exact (hcs.mono hU (fun k _ q => hno k q.2) (fun _ _ q => q)).snoc (hk.upd hU (fun k _ q => hno k q.2)) hkc
  · exact h.f.upd hU (fun k hk q => by
      rcases q with q | q
      · exact (h.hl k q).2.2.2 hk
      · exact (h.hf k hk).2.1 q)
  · exact h.s.upd hU (fun k hk q => by
      rcases q with q | q
      · exact (h.hl k q).2.2.1 hk
      · exact (h.hs k hk).2 q)
theorem RN.addF (h : RN F w0 w rb n sA sc S L m lA fA lc fc) {w8 : World} {o : Obj} {A8 : Option Addr} {c8 : Nat}
    (ho : Own w8 3 1 A8 (m + 1) c8 (icells (clsN m id) ++ [.int .i64 (m : Int)])) (hu : Upd (At fA) (w.alloc o) w8) (hat : ∀ k, At A8 k → At fA k ∨ k = (w.alloc o).heap.size) :
    RN F w0 (w8.setCell ⟨rb, 2, none⟩ (.slice A8 (m + 1) c8)) rb n sA sc S L (m + 1) lA A8 lc c8 := by
  have hsz := h.u.size
  have hrb := h.blk.lt
  obtain ⟨cs, hl1, hl2⟩ := h.l
  have uA : Upd Non w (w.alloc o) := Upd.refl.alloc o
  have uC := updCell w8 rb 2 (.slice A8 (m + 1) c8)
  have hal : ∀ k, At A8 k → w0.heap.size ≤ k ∧ k ≠ rb ∧ ¬ At sA k ∧ ¬ At lA k := fun k hk => by
    rcases hat k hk with q | q
    · exact ⟨(h.hf k q).1, (h.hf k q).2.1, (h.hf k q).2.2, fun z => (h.hl k z).2.2.2 q⟩
    · have : k = w.heap.size + 1 := by simpa using q
      exact ⟨by omega, by omega, fun z => by have := h.s.lt z; omega, fun z => by have := hl1.lt z; omega⟩
  have hb8 := (h.blk.alloc o).upd hu (fun q => (h.hf rb q).2.1 rfl)
  have hU : Upd (fun k => At fA k ∨ k = rb) w (w8.setCell ⟨rb, 2, none⟩ (.slice A8 (m + 1) c8)) := ((uA.mono (T := fun k => At fA k ∨ k = rb) (fun _ _ f => f.elim)).trans hu (fun _ _ q => .inl q)).trans uC (fun _ _ q => .inr q)
  have hno : ∀ k, k < w0.heap.size → ¬ (At fA k ∨ k = rb) := fun k hk q => by
    rcases q with q | q
    · have := (h.hf k q).1; omega
    · have := h.hr; omega
  refine ⟨h.u.trans hU (fun k hk q => hno k hk q), ?_, ⟨cs, ?_, ?_⟩, ?_, ?_, fun k hk => ⟨(h.hl k hk).1, (h.hl k hk).2.1, (h.hl k hk).2.2.1, fun z => (hal k z).2.2.2 hk⟩, fun k hk => ⟨(hal k hk).1, (hal k hk).2.1, (hal k hk).2.2.1⟩, h.hs, h.hr⟩
  · have := hb8.set_ 2 (.slice A8 (m + 1) c8)
    simpa using this
  · exact hl1.upd hU (fun k hk q => by
      rcases q with q | q
      · exact (h.hl k hk).2.2.2 q
      · exact (h.hl k hk).2.1 q)
  · exact hl2.mono hU (fun k _ q => hno k q.2) (fun _ _ q => q)
  · have := ho.upd uC (fun k hk q => (hal k hk).2.1 q)
    rw [show icells (clsN (m + 1) id) = icells (clsN m id) ++ [.int .i64 (m : Int)] by simp [clsN, icells, List.range_succ]]
    exact this
  · exact h.s.upd hU (fun k hk q => by
      rcases q with q | q
      · exact (h.hf k q).2.2 hk
      · exact (h.hs k hk).2 q)
theorem RN.fin (h : RN F w0 w rb L.length sA sc (sortsF L) L L.length lA fA lc fc) : ∃ ρ a, RM w ρ rb a (newG L) ∧ ∀ k, ρ k ≠ .no → w0.heap.size ≤ k ∨ (F k ∧ ρ k = .kids) := by
  classical
  obtain ⟨cs, hl1, hl2⟩ := h.l
  have hsz := h.u.size
  have hsl : (sortsF L).length = L.length := by unfold sortsF; exact sortsTo_len _ _
  obtain ⟨ρ, Hρ⟩ : ∃ ρ : Nat → Role, ρ = fun k => if k = rb then .me else if At lA k then .nodes else if At fA k then .find else if At sA k then .sorts else if F k ∧ k < w0.heap.size then .kids else .no := ⟨_, rfl⟩
  have r1 : ρ rb = .me := by rw [Hρ]; simp
  have r2 : ∀ k, At lA k → ρ k = .nodes := fun k hk => by rw [Hρ]; dsimp only; rw [if_neg (h.hl k hk).2.1, if_pos hk]
  have r3 : ∀ k, At fA k → ρ k = .find := fun k hk => by rw [Hρ]; dsimp only; rw [if_neg (h.hf k hk).2.1, if_neg (fun z => (h.hl k z).2.2.2 hk), if_pos hk]
  have r4 : ∀ k, At sA k → ρ k = .sorts := fun k hk => by rw [Hρ]; dsimp only; rw [if_neg (h.hs k hk).2, if_neg (fun z => (h.hl k z).2.2.1 hk), if_neg (fun z => (h.hf k z).2.2 hk), if_pos hk]
  have r5 : ∀ k, (F k ∧ k < w0.heap.size) → ρ k = .kids := fun k hk => by
    have := h.hr
    rw [Hρ]; dsimp only; rw [if_neg (by omega), if_neg (fun z => by have := (h.hl k z).1; omega), if_neg (fun z => by have := (h.hf k z).1; omega), if_neg (fun z => by have := (h.hs k z).1; omega), if_pos hk]
  refine ⟨ρ, ⟨lA, lc, none, 0, fA, fc, sA, sc⟩, ⟨fun k hk => ?_, r1, ?_, ⟨cs, hl1, hl2.mono (Upd.refl (S := Non)) (fun _ _ _ f => f) (fun k _ q => r5 k q), r2⟩, ⟨?_, r4⟩, ⟨?_, r3⟩, ⟨[], Own.none_, StepCells.nil, fun k hk => (At.none_ hk).elim⟩⟩, fun k hk => ?_⟩
  · rw [Hρ] at hk
    dsimp only at hk
    by_cases e1 : k = rb
    · rw [e1]; exact h.blk.lt
    by_cases e2 : At lA k
    · exact hl1.lt e2
    by_cases e3 : At fA k
    · exact h.f.lt e3
    by_cases e4 : At sA k
    · exact h.s.lt e4
    by_cases e5 : F k ∧ k < w0.heap.size
    · omega
    · rw [if_neg e1, if_neg e2, if_neg e3, if_neg e4, if_neg e5] at hk; exact absurd rfl hk
  · exact h.blk
  · show Own w 3 1 sA (sortsF (newG L).L).length sc _
    rw [show (newG L).L = L from rfl, hsl]; exact h.s
  · have := h.f
    rw [clL_len]
    exact this
  · rw [Hρ] at hk
    dsimp only at hk
    by_cases e1 : k = rb
    · rw [e1]; exact .inl h.hr
    by_cases e2 : At lA k
    · exact .inl (h.hl k e2).1
    by_cases e3 : At fA k
    · exact .inl (h.hf k e3).1
    by_cases e4 : At sA k
    · exact .inl (h.hs k e4).1
    by_cases e5 : F k ∧ k < w0.heap.size
    · exact .inr ⟨e5.1, r5 k e5⟩
    · rw [if_neg e1, if_neg e2, if_neg e3, if_neg e4, if_neg e5] at hk; exact absurd rfl hk
end

/-- What the reference's New returns. -/
def RNewPost (F : Nat → Prop) (w : World) (L : List Nd) (e : Ending) (w' : World) : Prop :=
  (2000 < L.length ∧ e = .returned (.tuple #[.pointer none, .int .i64 6])) ∨ (L.length ≤ 2000 ∧ ¬ allSorted L ∧ e = .returned (.tuple #[.pointer none, .int .i64 1])) ∨
  (L.length ≤ 2000 ∧ allSorted L ∧ ¬ nodup L ∧ e = .returned (.tuple #[.pointer none, .int .i64 4])) ∨
  (L.length ≤ 2000 ∧ allSorted L ∧ nodup L ∧ ∃ rb ρ a, e = .returned (.tuple #[gp rb, .int .i64 0]) ∧ RM w' ρ rb a (newG L) ∧ ∀ k, ρ k ≠ .no → w.heap.size ≤ k ∨ (F k ∧ ρ k = .kids))

set_option maxRecDepth 100000 in
set_option maxHeartbeats 4000000 in
theorem rNew_c (w : World) (F : Nat → Prop) (LA : Option Addr) (lc : Nat) (L : List Nd) (hL : NodesV w F LA L) (hn : L.length ≤ 100000000000) (hkk : ∀ nd ∈ L, nd.kids.length ≤ 100000000000) :
    Calls Try.prog 26 #[.slice LA L.length lc] w fun e w' => RNewPost F w L e w' ∧ Upd Non w w' := by
  have HKK := Lib.hid hkk
  have hL0 := hL.mono (G := fun k => F k ∧ k < w.heap.size) (fun k hk hf => ⟨hf, hk⟩)
  have C1 := Lib.hid (sorts_c w F LA lc L hL (by omega) (fun nd h => by have := hkk nd h; omega))
  clear hkk hL
  by_cases hbig : 2000 < L.length
  · clear C1
    go_enter Try.func26, Try.ntmps26
    go_wp2_with fail
    go_ret2
    exact ⟨.inl ⟨hbig, rfl⟩, Upd.refl⟩
  have hsm : L.length ≤ 2000 := by omega
  go_enter Try.func26, Try.ntmps26
  go_wp2_with fail
  refine C1.out.mono ?_
  rintro e w1 ⟨sA, sc, rfl, hos, HsA, hu1⟩
  have HsA := Lib.hid HsA
  clear C1
  obtain ⟨n, Hn⟩ := nm L.length
  rw [Hn.out] at hsm hbig hos
  rw [Hn.out]
  have hos' := hos.ints
  have hsl : (sortsF L).length = L.length := by unfold sortsF; exact sortsTo_len _ _
  have HSL := Lib.hid hsl
  clear hsl
  go_wp2_with fail
  go_loopg [5] n (fun g iv wr => ∃ k : Nat, Hid (g = n - k) ∧ k ≤ n ∧ iv = .int .i64 k ∧ Hid (∀ q, q < k → (sortsF L).getD q 0 ≠ 0) ∧ wr = w1)
  case atStart => exact ⟨0, rfl, by omega, rfl, fun q hq => by omega, rfl⟩
  case round =>
    obtain ⟨k, Hg, hk, rfl, Hs, e1⟩ := hrel
    obtain rfl : w1 = wr := e1.symm
    by_cases hlt : k < n
    · obtain ⟨sb, so, rfl, _, hsb, hcs⟩ := hos'.at_ (k := k) (by rw [HSL.out, Hn.out]; exact hlt)
      rw [← getD_of (d := (0 : Int))] at hcs
      by_cases hz : (sortsF L).getD k 0 = 0
      · have HNS : Hid (¬ allSorted L) := fun h => h k (by rw [Hn.out]; exact hlt) hz
        rw [hz] at hcs
        clear hz
        go_wp2_with fail
        go_ret2
        exact ⟨.inr (.inl ⟨by rw [Hn.out]; exact hsm, HNS.out, rfl⟩), hu1⟩
      · have Hs2 : Hid (∀ q, q < k + 1 → (sortsF L).getD q 0 ≠ 0) := fun q hq => by
          by_cases e : q = k
          · subst e; exact hz
          · exact Hs.out q (by omega)
        have hb : ((sortsF L).getD k 0 == 0) = false := by simpa using hz
        generalize (sortsF L).getD k 0 = y at *
        clear hz
        go_wp2_with fail
        go_roundg (n - (k + 1))
        case measure => rw [Hg.out]; omega
        case rel => exact ⟨k + 1, rfl, by omega, by go_num, Hs2, rfl⟩
    · obtain rfl : n = k := by omega
      have HAS : Hid (allSorted L) := fun i hi => Hs.out i (by rw [← Hn.out]; exact hi)
      clear hos' Hs hlt Hg
      go_wp2_with fail
      obtain ⟨w2, e2⟩ : ∃ w2 : World, w2 = w1.alloc (.cells #[.slice none 0 0, .slice none 0 0, .slice none 0 0, .slice sA n sc] 61) := ⟨_, rfl⟩
      have hRN : RN (fun k => F k) w w2 w1.heap.size n sA sc (sortsF L) (L.take 0) 0 none none 0 0 := by
        rw [e2]
        have hs1 := hu1.size
        refine ⟨hu1.alloc _, by simpa using Blk.new w1 _ _, ⟨[], by simpa using Own.none_, by simpa using NodeCells.nil⟩, by simpa [clsN, icells] using Own.none_, hos.alloc _, fun k hk => (At.none_ hk).elim, fun k hk => (At.none_ hk).elim, fun k hk => ⟨HsA.out k hk, by have := hos.lt hk; omega⟩, hs1⟩
      rw [← e2]
      have hw1 : w1.heap.size < w2.heap.size := by rw [e2]; simp
      have HL0 := Lib.hid hL0
      have HU1 := Lib.hid hu1
      clear hL0 hos hu1
      go_loopg [7, 8] n (fun g iv _ wr => ∃ (j lc fc : Nat) (lA fA : Option Addr), Hid (g = n - j) ∧ j ≤ n ∧ iv = .int .i64 j ∧ RN F w wr w1.heap.size n sA sc (sortsF L) (L.take j) j lA fA lc fc ∧ Hid (∀ q k, q < j → k < q → L.getD k nd0 ≠ L.getD q nd0))
      case atStart => exact ⟨0, 0, 0, none, none, rfl, by omega, rfl, hRN, fun q k hq => by omega⟩
      case round =>
        obtain ⟨j, lc2, fc2, lA, fA, Hg, hj, rfl, hR, HD⟩ := hrel
        by_cases hlt : j < n
        · have hjL : j < L.length := by rw [Hn.out]; exact hlt
          have hTl : (L.take j).length = j := by simp; omega
          obtain ⟨w3, e3⟩ : ∃ w3 : World, w3 = wr := ⟨_, rfl⟩
          subst e3
          go_wp2_with fail
          go_loopg [8] j (fun g iv wr => ∃ t : Nat, Hid (g = j - t) ∧ t ≤ j ∧ iv = .int .i64 t ∧ Hid (∀ k, k < t → L.getD k nd0 ≠ L.getD j nd0) ∧ Upd Non w3 wr)
          case atStart => exact ⟨0, rfl, by omega, rfl, fun k hk => by omega, Upd.refl⟩
          case round =>
            obtain ⟨t, Hgt, ht, rfl, HT, hut⟩ := hrel
            have hR1 := hR.non hut
            have hnr : NodesV wr (fun k => F k ∧ k < w.heap.size) LA L := HL0.out.upd hR1.u (fun _ _ _ f => f)
            by_cases htj : t < j
            · have htL : t < L.length := by omega
              obtain ⟨lb, lo, rfl, hFl, hlb, n1, n2, KA, kc, n3, hkc, hki⟩ := hnr.at_ htL
              obtain ⟨lb', lo', ea', _, hlb', m1, m2, KB, kd, m3, hkd, hkj⟩ := hnr.at_ hjL
              obtain ⟨rfl, rfl⟩ : lb = lb' ∧ lo = lo' := by injection ea' with e; injection e with e1 e2; exact ⟨e1, e2⟩
              have hkl := HKK.out _ (List.getElem_mem htL)
              have C2 := Lib.hid (sameNode_c wr.drew _ _ L[t] L[j] KA KB kc kd (hki.upd (Upd.refl.drew (S := Non)) (fun _ _ _ f => f)) (hkj.upd (Upd.refl.drew (S := Non)) (fun _ _ _ f => f)) (by omega))
              have HY : Hid (sameNd L[t] L[j] = true → ¬ nodup L) := fun hs hd => hd t j htL hjL htj (sameNd_iff.1 hs)
              have HN2 : Hid (sameNd L[t] L[j] = false → ∀ k, k < t + 1 → L.getD k nd0 ≠ L.getD j nd0) := fun hs k hk => by
                by_cases e : k = t
                · subst e
                  rw [getD_of htL, getD_of hjL]
                  intro e
                  rw [sameNd_iff.2 e] at hs; cases hs
                · exact HT.out k (by omega)
              generalize L[t] = na at *
              generalize L[j] = nb at *
              obtain ⟨b, Hb⟩ := nm (sameNd na nb)
              rw [Hb.out] at C2 HY HN2
              have t0 : (0 : Int) ≤ (t : Int) := by omega
              have t1 : (t : Int) < (n : Int) := by omega
              have j0 : (0 : Int) ≤ (j : Int) := by omega
              have j1 : (j : Int) < (n : Int) := by omega
              have a1 : wr.drew.cell? ⟨lb, lo + t * 3, none⟩ = some (.int .i64 na.op) := n1
              have a2 : wr.drew.cell? ⟨lb, lo + t * 3 + 1, none⟩ = some (.int .i64 na.imm) := n2
              have a3 : wr.drew.cell? ⟨lb, lo + t * 3 + 2, none⟩ = some (.slice KA na.kids.length kc) := n3
              have b1 : wr.drew.cell? ⟨lb, lo + j * 3, none⟩ = some (.int .i64 nb.op) := m1
              have b2 : wr.drew.cell? ⟨lb, lo + j * 3 + 1, none⟩ = some (.int .i64 nb.imm) := m2
              have b3 : wr.drew.cell? ⟨lb, lo + j * 3 + 2, none⟩ = some (.slice KB nb.kids.length kd) := m3
              go_wp2_with fail
              refine wp_region_held_drew (S := fun w' => w'.cell? ⟨lb, lo + t * 3, none⟩ = some (.int .i64 na.op) ∧ w'.cell? ⟨lb, lo + t * 3 + 1, none⟩ = some (.int .i64 na.imm) ∧ w'.cell? ⟨lb, lo + t * 3 + 2, none⟩ = some (.slice KA na.kids.length kc) ∧ w'.cell? ⟨lb, lo + j * 3, none⟩ = some (.int .i64 nb.op) ∧ w'.cell? ⟨lb, lo + j * 3 + 1, none⟩ = some (.int .i64 nb.imm) ∧ w'.cell? ⟨lb, lo + j * 3 + 2, none⟩ = some (.slice KB nb.kids.length kd)) (by kernel_rfl) ⟨a1, a2, a3, b1, b2, b3⟩ (fun hHeld => ?_)
              refine wpAnyH_take (i := 0) (v := ?_) rfl (by kernel_rfl) (by kernel_rfl) (by kernel_rfl) (fun _ _ _ h => h) (Or.inl ⟨by rfl, ?_⟩) (by assumption) ?_
              rotate_left
              · intro w hSw; (try dsimp only at hSw); go_simp; try with_reducible rfl
              try simp only [put_y]
              try simp only [Act.put]
              try simp only [put_z]
              refine wpAnyH_take (i := 1) (v := ?_) rfl (by kernel_rfl) (by kernel_rfl) (by kernel_rfl) (fun _ _ _ h => h) (Or.inl ⟨by rfl, ?_⟩) (by assumption) ?_
              rotate_left
              · intro w hSw; (try dsimp only at hSw); go_simp; try with_reducible rfl
              try simp only [put_y]
              try simp only [Act.put]
              try simp only [put_z]
              refine wpAnyH_take (i := 2) (v := ?_) rfl (by kernel_rfl) (by kernel_rfl) (by kernel_rfl) (fun _ _ _ h => h) (Or.inl ⟨by rfl, ?_⟩) (by assumption) ?_
              rotate_left
              · intro w hSw; (try dsimp only at hSw); go_simp; try with_reducible rfl
              try simp only [put_y]
              try simp only [Act.put]
              try simp only [put_z]
              refine wpAnyH_take (i := 3) (v := ?_) rfl (by kernel_rfl) (by kernel_rfl) (by kernel_rfl) (fun _ _ _ h => h) (Or.inl ⟨by rfl, ?_⟩) (by assumption) ?_
              rotate_left
              · intro w hSw; (try dsimp only at hSw); go_simp; try with_reducible rfl
              try simp only [put_y]
              try simp only [Act.put]
              try simp only [put_z]
              refine wpAnyH_take (i := 4) (v := ?_) rfl (by kernel_rfl) (by kernel_rfl) (by kernel_rfl) (fun _ _ _ h => h) (Or.inl ⟨by rfl, ?_⟩) (by assumption) ?_
              rotate_left
              · intro w hSw; (try dsimp only at hSw); go_simp; try with_reducible rfl
              try simp only [put_y]
              try simp only [Act.put]
              try simp only [put_z]
              refine wpAnyH_take (i := 5) (v := ?_) rfl (by kernel_rfl) (by kernel_rfl) (by kernel_rfl) (fun _ _ _ h => h) (Or.inl ⟨by rfl, ?_⟩) (by assumption) ?_
              rotate_left
              · intro w hSw; (try dsimp only at hSw); go_simp; try with_reducible rfl
              try simp only [put_y]
              try simp only [Act.put]
              try simp only [put_z]
              refine wpAnyH_take (i := 6) (v := ?_) rfl (by kernel_rfl) (by kernel_rfl) (by kernel_rfl) (fun _ _ _ h => h) (Or.inl ⟨by rfl, ?_⟩) (by assumption) ?_
              rotate_left
              · intro w hSw; (try dsimp only at hSw); go_simp; try with_reducible rfl
              try simp only [put_y]
              try simp only [Act.put]
              try simp only [put_z]
              refine wpAnyH_take (i := 7) (v := ?_) rfl (by kernel_rfl) (by kernel_rfl) (by kernel_rfl) (fun _ _ _ h => h) (Or.inl ⟨by rfl, ?_⟩) (by assumption) ?_
              rotate_left
              · intro w hSw; (try dsimp only at hSw); go_simp; try with_reducible rfl
              try simp only [put_y]
              try simp only [Act.put]
              try simp only [put_z]
              refine wpAnyH_ready (rs := [8]) (by kernel_rfl) (by simp) ?_
              refine AllReadyH.cons rfl (fun K hK => ?_) AllReadyH.nil
              go_simp
              refine C2.out.mono ?_
              rintro e w4 ⟨rfl, hu4'⟩
              have hu4 : Upd Non wr w4 := Upd.refl.drew.then_non hu4'
              go_wp2_with fail
              refine hK.out _ _ ?_ (fun hHeld => ?_)
              · exact ⟨cell_upd n1 hu4 (fun f => f), cell_upd n2 hu4 (fun f => f), cell_upd n3 hu4 (fun f => f), cell_upd m1 hu4 (fun f => f), cell_upd m2 hu4 (fun f => f), cell_upd m3 hu4 (fun f => f)⟩
              clear hK K
              try simp only [put_y]
              try simp only [Act.put]
              try simp only [put_z]
              refine wpAnyH_done (by kernel_rfl) ?_ _
              cases b with
              | true =>
                have HR := Lib.hid (HY.out rfl)
                clear HY HN2
                go_wp2_with fail
                go_ret2
                exact ⟨.inr (.inr (.inl ⟨by rw [Hn.out]; exact hsm, HAS.out, HR.out, rfl⟩)), hR1.u.then_non hu4⟩
              | false =>
                have HR := Lib.hid (HN2.out rfl)
                clear HY HN2
                go_wp2_with fail
                go_roundg (j - (t + 1))
                case measure => rw [Hgt.out]; omega
                case rel => exact ⟨t + 1, rfl, by omega, by go_num, HR, hut.then_non hu4⟩
            · obtain rfl : j = t := by omega
              have HD2 : Hid (∀ q k, q < j + 1 → k < q → L.getD k nd0 ≠ L.getD q nd0) := fun q k hq hk => by
                by_cases e : q = j
                · subst e; exact HT.out k hk
                · exact HD.out q k (by omega) hk
              obtain ⟨wD, HwD⟩ := nm wr.drew
              have uD : Upd Non wr wD := by rw [← HwD.out]; exact Upd.refl.drew
              have hRD := hR1.non uD
              obtain ⟨lb, lo, rfl, hFl, hlb, n1, n2, KA, kc, n3, hkc, hki⟩ := (hnr.upd uD (fun _ _ _ f => f)).at_ hjL
              have hlw : lb < w.heap.size := hFl.2
              have hsw := hRD.u.size
              have hs1 := HU1.out.size
              have hlD : lb < wD.heap.size := by omega
              have hrD := hRD.blk.lt
              have hTS : Hid (L.take (j + 1) = L.take j ++ [L[j]]) := List.take_succ_eq_append_getElem hjL
              obtain ⟨nd, Hnd⟩ := nm L[j]
              rw [Hnd.out] at n1 n2 n3 hki hkc hTS
              have j0 : (0 : Int) ≤ (j : Int) := by omega
              have j1 : (j : Int) < (n : Int) := by omega
              obtain ⟨cs, hol, hcs⟩ := hRD.l
              rw [hTl] at hol
              have hbk := hRD.blk
              rw [hTl] at hbk
              have c0 := hbk.cell 0
              have hlr : ¬ At lA w1.heap.size := fun z => (hRD.hl _ z).2.1 rfl
              have hll : ¬ At lA lb := fun z => by have := (hRD.hl _ z).1; omega
              have HCS := Lib.hid hcs
              have HRD := Lib.hid hRD
              have hA9 := hol.alloc (.cells #[.int .i64 nd.op, .int .i64 nd.imm, .slice KA nd.kids.length kc] 24)
              have q8 : ∀ (w0 w' : World) (T : Nat → Prop), (Upd Non wD w0) → Upd T w0 w' → ¬ T lb → w'.cell? ⟨lb, lo + j * 3, none⟩ = some (.int .i64 nd.op) ∧ w'.cell? ⟨lb, lo + j * 3 + 1, none⟩ = some (.int .i64 nd.imm) ∧ w'.cell? ⟨lb, lo + j * 3 + 2, none⟩ = some (.slice KA nd.kids.length kc) := fun w0 w' T u0 u hT => ⟨cell_upd (cell_upd n1 u0 (fun f => f)) u hT, cell_upd (cell_upd n2 u0 (fun f => f)) u hT, cell_upd (cell_upd n3 u0 (fun f => f)) u hT⟩
              clear hcs hR hR1 hRN hnr hRD hol
              go_wp2_with fail
              refine wp_region_held_drew (S := fun w' => w'.cell? ⟨lb, lo + j * 3, none⟩ = some (.int .i64 nd.op) ∧ w'.cell? ⟨lb, lo + j * 3 + 1, none⟩ = some (.int .i64 nd.imm) ∧ w'.cell? ⟨lb, lo + j * 3 + 2, none⟩ = some (.slice KA nd.kids.length kc)) (by kernel_rfl) (by rw [HwD.out]; exact ⟨n1, n2, n3⟩) (fun hHeld => ?_)
              rw [HwD.out] at hHeld ⊢
              refine wpAnyH_take (i := 0) (v := ?_) rfl (by kernel_rfl) (by kernel_rfl) (by kernel_rfl) (fun _ _ _ h => h) (Or.inl ⟨by rfl, ?_⟩) (by assumption) ?_
              rotate_left
              · intro w hSw; (try dsimp only at hSw); go_simp; try with_reducible rfl
              try simp only [put_y]
              try simp only [Act.put]
              try simp only [put_z]
              refine wpAnyH_take (i := 1) (v := ?_) rfl (by kernel_rfl) (by kernel_rfl) (by kernel_rfl) (fun _ _ _ h => h) (Or.inl ⟨by rfl, ?_⟩) (by assumption) ?_
              rotate_left
              · intro w hSw; (try dsimp only at hSw); go_simp; try with_reducible rfl
              try simp only [put_y]
              try simp only [Act.put]
              try simp only [put_z]
              refine wpAnyH_take (i := 2) (v := ?_) rfl (by kernel_rfl) (by kernel_rfl) (by kernel_rfl) (fun _ _ _ h => h) (Or.inl ⟨by rfl, ?_⟩) (by assumption) ?_
              rotate_left
              · intro w hSw; (try dsimp only at hSw); go_simp; try with_reducible rfl
              try simp only [put_y]
              try simp only [Act.put]
              try simp only [put_z]
              refine wpAnyH_take (i := 3) (v := ?_) rfl (by kernel_rfl) (by kernel_rfl) (by kernel_rfl) (fun _ _ _ h => h) (Or.inl ⟨by rfl, ?_⟩) (by assumption) ?_
              rotate_left
              · intro w hSw; (try dsimp only at hSw); go_simp; try with_reducible rfl
              try simp only [put_y]
              try simp only [Act.put]
              try simp only [put_z]
              refine wpAnyH_take (i := 5) (v := ?_) rfl (by kernel_rfl) (by kernel_rfl) (by kernel_rfl) (fun _ _ _ h => h) (Or.inl ⟨by rfl, ?_⟩) (by assumption) ?_
              rotate_left
              · intro w hSw; (try dsimp only at hSw); go_simp; try with_reducible rfl
              try simp only [put_y]
              try simp only [Act.put]
              try simp only [put_z]
              refine wpAnyH_take (i := 6) (v := ?_) rfl (by kernel_rfl) (by kernel_rfl) (by kernel_rfl) (fun _ _ _ h => h) (Or.inl ⟨by rfl, ?_⟩) (by assumption) ?_
              rotate_left
              · intro w hSw; (try dsimp only at hSw); go_simp; try with_reducible rfl
              try simp only [put_y]
              try simp only [Act.put]
              try simp only [put_z]
              refine wpAnyH_take (i := 7) (v := ?_) rfl (by kernel_rfl) (by kernel_rfl) (by kernel_rfl) (fun _ _ _ h => h) (Or.inl ⟨by rfl, ?_⟩) (by assumption) ?_
              rotate_left
              · intro w hSw; (try dsimp only at hSw); go_simp; try with_reducible rfl
              try simp only [put_y]
              try simp only [Act.put]
              try simp only [put_z]
              refine wpAnyH_take (i := 8) (v := ?_) rfl (by kernel_rfl) (by kernel_rfl) (by kernel_rfl) (fun _ _ _ h => h) (Or.inl ⟨by rfl, ?_⟩) (by assumption) ?_
              rotate_left
              · intro w hSw; (try dsimp only at hSw); go_simp; try with_reducible rfl
              try simp only [put_y]
              try simp only [Act.put]
              try simp only [put_z]
              refine wpAnyH_ready (rs := [4, 9]) (by kernel_rfl) (by simp) ?_
              refine AllReadyH.cons rfl (fun K hK => ?_) (AllReadyH.cons rfl (fun K hK => ?_) AllReadyH.nil)
              · go_simp
                refine hK.out _ _ ?_ (fun hHeld => ?_)
                · exact ⟨n1, n2, n3⟩
                clear hK K
                try simp only [put_y]
                try simp only [Act.put]
                try simp only [put_z]
                refine wpAnyH_ready (rs := [9]) (by kernel_rfl) (by simp) ?_
                refine AllReadyH.cons rfl (fun K hK => ?_) AllReadyH.nil
                go_simp
                refine hK.out _ _ ?_ (fun hHeld => ?_)
                · exact q8 _ _ Non (Upd.refl) (Upd.refl.alloc _) (fun f => f)
                clear hK K
                try simp only [put_y]
                try simp only [Act.put]
                try simp only [put_z]
                refine wpAnyH_ready (rs := [10]) (by kernel_rfl) (by simp) ?_
                refine AllReadyH.cons rfl (fun K hK => ?_) AllReadyH.nil
                refine step_app rfl rfl T_nodes rfl hA9 rfl (Sl.new _ _ _) rfl (by simp [Value.oneCell']) (by simp only [maxLen]; omega) (by omega) ?_
                intro A8 c8 w8 ho8 hu8 hat8
                have hb8 := (hbk.alloc (.cells #[.int .i64 nd.op, .int .i64 nd.imm, .slice KA nd.kids.length kc] 24)).upd hu8 hlr
                have k8 := hb8.cell 0
                have f8 := hb8.frozen 0
                have hq8 := q8 _ w8 _ (Upd.refl.alloc _) hu8 hll
                refine hK.out _ _ ?_ (fun hHeld => ?_)
                · exact hq8
                clear hK K
                try simp only [put_y]
                try simp only [Act.put]
                try simp only [put_z]
                refine wpAnyH_take (i := 11) (v := ?_) rfl (by kernel_rfl) (by kernel_rfl) (by kernel_rfl) (fun _ _ _ h => h) (Or.inl ⟨by rfl, ?_⟩) (by assumption) ?_
                rotate_left
                · intro w hSw; (try dsimp only at hSw); go_simp; try with_reducible rfl
                try simp only [put_y]
                try simp only [Act.put]
                try simp only [put_z]
                refine wpAnyH_take (i := 12) (v := ?_) rfl (by kernel_rfl) (by kernel_rfl) (by kernel_rfl) (fun _ _ _ h => h) (Or.inl ⟨by rfl, ?_⟩) (by assumption) ?_
                rotate_left
                · intro w hSw; (try dsimp only at hSw); go_simp; try with_reducible rfl
                try simp only [put_y]
                try simp only [Act.put]
                try simp only [put_z]
                refine wpAnyH_ready (rs := [13]) (by kernel_rfl) (by simp) ?_
                refine AllReadyH.cons rfl (fun K hK => ?_) AllReadyH.nil
                go_simp
                have uC := updCell w8 w1.heap.size 0 (.slice A8 (j + 1) c8)
                refine hK.out _ _ ?_ (fun hHeld => ?_)
                · exact ⟨cell_upd hq8.1 uC (by omega), cell_upd hq8.2.1 uC (by omega), cell_upd hq8.2.2 uC (by omega)⟩
                clear hK K
                try simp only [put_y]
                try simp only [Act.put]
                try simp only [put_z]
                refine wpAnyH_done (by kernel_rfl) ?_ _
                have hR9 := HRD.out.addL HCS.out (by rw [hTl]; exact ho8) hu8 hat8 hki hkc
                rw [hTl, ← hTS.out] at hR9
                obtain ⟨w9, H9⟩ := nm (w8.setCell ⟨w1.heap.size, 0, none⟩ (.slice A8 (j + 1) c8))
                have e9 := H9.out
                rw [H9.out] at hR9
                have hb9 := hR9.blk
                rw [show (L.take (j + 1)).length = j + 1 by simp; omega] at hb9
                have c92 := hb9.cell 2
                have hr9 := hb9.lt
                have hfr : ¬ At fA w1.heap.size := fun z => (hR9.hf _ z).2.1 rfl
                have HR9 := Lib.hid hR9
                have hf9 := hR9.f
                clear hat8 hb8 k8 f8 hq8 ho8 hu8 uC hR9 q8 hA9 hbk c0
                go_wp2_with (at_builtin; refine wpList_app rfl rfl T_ints' rfl (hf9.alloc _) rfl (Sl.new _ _ _) rfl (by simp [Value.oneCell']) (by simp only [maxLen]; omega) (by omega) ?_; intro A3 c3 w5 ho5 hu5 hat5; have b5 := (hb9.alloc _).upd hu5 hfr; have f5 := b5.frozen 2; have k5 := b5.cell 2; have HRF := Lib.hid (HR9.out.addF ho5 hu5 hat5))
                go_roundg (n - (j + 1))
                case measure => rw [Hg.out]; omega
                case rel => exact ⟨j + 1, c8, c3, A8, A3, rfl, by omega, by go_num, HRF.out, HD2⟩
              · go_simp
                refine hK.out _ _ ?_ (fun hHeld => ?_)
                · exact q8 _ _ Non (Upd.refl) (Upd.refl.alloc _) (fun f => f)
                clear hK K
                try simp only [put_y]
                try simp only [Act.put]
                try simp only [put_z]
                refine wpAnyH_ready (rs := [4]) (by kernel_rfl) (by simp) ?_
                refine AllReadyH.cons rfl (fun K hK => ?_) AllReadyH.nil
                go_simp
                refine hK.out _ _ ?_ (fun hHeld => ?_)
                · exact q8 _ _ Non (Upd.refl) (Upd.refl.alloc _) (fun f => f)
                clear hK K
                try simp only [put_y]
                try simp only [Act.put]
                try simp only [put_z]
                refine wpAnyH_ready (rs := [10]) (by kernel_rfl) (by simp) ?_
                refine AllReadyH.cons rfl (fun K hK => ?_) AllReadyH.nil
                refine step_app rfl rfl T_nodes rfl hA9 rfl (Sl.new _ _ _) rfl (by simp [Value.oneCell']) (by simp only [maxLen]; omega) (by omega) ?_
                intro A8 c8 w8 ho8 hu8 hat8
                have hb8 := (hbk.alloc (.cells #[.int .i64 nd.op, .int .i64 nd.imm, .slice KA nd.kids.length kc] 24)).upd hu8 hlr
                have k8 := hb8.cell 0
                have f8 := hb8.frozen 0
                have hq8 := q8 _ w8 _ (Upd.refl.alloc _) hu8 hll
                refine hK.out _ _ ?_ (fun hHeld => ?_)
                · exact hq8
                clear hK K
                try simp only [put_y]
                try simp only [Act.put]
                try simp only [put_z]
                refine wpAnyH_take (i := 11) (v := ?_) rfl (by kernel_rfl) (by kernel_rfl) (by kernel_rfl) (fun _ _ _ h => h) (Or.inl ⟨by rfl, ?_⟩) (by assumption) ?_
                rotate_left
                · intro w hSw; (try dsimp only at hSw); go_simp; try with_reducible rfl
                try simp only [put_y]
                try simp only [Act.put]
                try simp only [put_z]
                refine wpAnyH_take (i := 12) (v := ?_) rfl (by kernel_rfl) (by kernel_rfl) (by kernel_rfl) (fun _ _ _ h => h) (Or.inl ⟨by rfl, ?_⟩) (by assumption) ?_
                rotate_left
                · intro w hSw; (try dsimp only at hSw); go_simp; try with_reducible rfl
                try simp only [put_y]
                try simp only [Act.put]
                try simp only [put_z]
                refine wpAnyH_ready (rs := [13]) (by kernel_rfl) (by simp) ?_
                refine AllReadyH.cons rfl (fun K hK => ?_) AllReadyH.nil
                go_simp
                have uC := updCell w8 w1.heap.size 0 (.slice A8 (j + 1) c8)
                refine hK.out _ _ ?_ (fun hHeld => ?_)
                · exact ⟨cell_upd hq8.1 uC (by omega), cell_upd hq8.2.1 uC (by omega), cell_upd hq8.2.2 uC (by omega)⟩
                clear hK K
                try simp only [put_y]
                try simp only [Act.put]
                try simp only [put_z]
                refine wpAnyH_done (by kernel_rfl) ?_ _
                have hR9 := HRD.out.addL HCS.out (by rw [hTl]; exact ho8) hu8 hat8 hki hkc
                rw [hTl, ← hTS.out] at hR9
                obtain ⟨w9, H9⟩ := nm (w8.setCell ⟨w1.heap.size, 0, none⟩ (.slice A8 (j + 1) c8))
                have e9 := H9.out
                rw [H9.out] at hR9
                have hb9 := hR9.blk
                rw [show (L.take (j + 1)).length = j + 1 by simp; omega] at hb9
                have c92 := hb9.cell 2
                have hr9 := hb9.lt
                have hfr : ¬ At fA w1.heap.size := fun z => (hR9.hf _ z).2.1 rfl
                have HR9 := Lib.hid hR9
                have hf9 := hR9.f
                clear hat8 hb8 k8 f8 hq8 ho8 hu8 uC hR9 q8 hA9 hbk c0
                go_wp2_with (at_builtin; refine wpList_app rfl rfl T_ints' rfl (hf9.alloc _) rfl (Sl.new _ _ _) rfl (by simp [Value.oneCell']) (by simp only [maxLen]; omega) (by omega) ?_; intro A3 c3 w5 ho5 hu5 hat5; have b5 := (hb9.alloc _).upd hu5 hfr; have f5 := b5.frozen 2; have k5 := b5.cell 2; have HRF := Lib.hid (HR9.out.addF ho5 hu5 hat5))
                go_roundg (n - (j + 1))
                case measure => rw [Hg.out]; omega
                case rel => exact ⟨j + 1, c8, c3, A8, A3, rfl, by omega, by go_num, HRF.out, HD2⟩
        · obtain rfl : n = j := by omega
          have HND : Hid (nodup L) := fun i j hi hj hij => by
            have := HD.out j i (by rw [← Hn.out]; exact hj) hij
            rwa [getD_of hi, getD_of hj] at this
          have hT : L.take n = L := by rw [← Hn.out]; simp
          rw [hT] at hR
          go_wp2_with fail
          go_ret2
          have hR' := hR
          rw [← Hn.out] at hR'
          obtain ⟨ρ, a, hM, hr⟩ := hR'.fin
          exact ⟨.inr (.inr (.inr ⟨by rw [Hn.out]; exact hsm, HAS.out, HND.out, _, ρ, a, rfl, hM, hr⟩)), hR.u⟩
end Go.Proofs.Ytigambcefdeaoaa

namespace Go.Proofs.Ytigambcefdeaoaa
open Go.RowKit

set_option maxRecDepth 100000 in
set_option maxHeartbeats 4000000 in
theorem rDistinct_c (w : World) (ρ : Nat → Role) (rb : Nat) (a : RA) (G : EG) (h : RM w ρ rb a G) (hg : GWf G) (i : Int) :
    Calls Try.prog 61 #[gp rb, .int .i64 i] w fun e w' => ∃ A c, e = .returned (.slice A (distF G i).length c) ∧ Own w' 3 1 A (distF G i).length c (icells (distF G i)) ∧ (∀ k, At A k → w.heap.size ≤ k) ∧ Upd Non w w' := by
  have hn := hg.wf.small
  have C1 := Lib.hid (rClass_c w ρ rb a G h hn i)
  have hlen := classF_len G i
  have HME := Lib.hid (fun x => @classF_mem G i x)
  have HD : Hid (distF G i = distTo G.c G.L (classF G i) (classF G i).length) := rfl
  rw [HD.out]
  clear HD
  generalize classF G i = l at *
  have c0 := h.c0
  have c2 := h.c2
  have H := Lib.hid h
  have HG := Lib.hid hg
  have hgb := h.blk.lt
  obtain ⟨nG, HnG⟩ := nm G.L.length
  rw [HnG.out] at c0 c2 hn hlen
  obtain ⟨n, Hn⟩ := nm l.length
  rw [Hn.out] at hlen C1
  have HDL := Lib.hid (fun j => distTo_len G.c G.L l j)
  clear h hg
  unfold gp at C1 ⊢
  go_enter Try.func61, Try.ntmps61
  go_wp2_with fail
  refine C1.out.mono ?_
  rintro e w1 ⟨A, c, rfl, ho, HAl, hu1⟩
  have HAl := Lib.hid HAl
  have hiv := ho.ints
  clear C1 ho
  go_wp2_with fail
  go_loopg [5, 7, 8, 9] n (fun g v iv _ _ wr => ∃ (j m c3 : Nat) (A3 : Option Addr), Hid (g = n - j) ∧ j ≤ n ∧ iv = .int .i64 j ∧ v = .slice A3 m c3 ∧ Hid (m = (distTo G.c G.L l j).length) ∧ m ≤ j ∧ Own wr 3 1 A3 m c3 (icells (distTo G.c G.L l j)) ∧ Hid (∀ q, At A3 q → w1.heap.size ≤ q) ∧ Upd Non w1 wr)
  case atStart => exact ⟨0, 0, 0, none, rfl, by omega, rfl, rfl, rfl, by omega, Own.none_, fun j hj => (At.none_ hj).elim, Upd.refl⟩
  case round =>
    obtain ⟨j, m, c3, A3, Hg, hj, rfl, rfl, Hm, hm, ho3, HA3, hu⟩ := hrel
    by_cases hlt : j < n
    · have hlt' : j < l.length := by rw [Hn.out]; exact hlt
      obtain ⟨k0, k1⟩ := HME.out _ (List.getElem_mem hlt')
      obtain ⟨ab, ao, rfl, _, hab, hcl⟩ := hiv.at_ hlt'
      have HD := Lib.hid (show distTo G.c G.L l (j + 1) = bif seenB G.c G.L (l.take j) (ck G.c (G.L.getD (l.getD j 0).toNat nd0)) then distTo G.c G.L l j else distTo G.c G.L l j ++ [l.getD j 0] from rfl)
      rw [getD_of hlt'] at HD
      have HTk := Lib.hid (fun t (ht : t < n) => show l.take (t + 1) = l.take t ++ [l.getD t 0] by rw [getD_of (by rw [Hn.out]; exact ht)]; exact List.take_succ_eq_append_getElem (by rw [Hn.out]; exact ht))
      generalize l[j] = x at *
      obtain ⟨q, rfl⟩ := Int.eq_ofNat_of_zero_le k0
      have k1 : q < G.L.length := k1
      have HD : Hid (distTo G.c G.L l (j + 1) = bif seenB G.c G.L (l.take j) (ck G.c (G.L.getD q nd0)) then distTo G.c G.L l j else distTo G.c G.L l j ++ [(q : Int)]) := HD
      have hclr := cell_upd hcl hu (fun f => f)
      have hwab := Nat.lt_of_lt_of_le hab hu.size
      obtain ⟨s, Hs⟩ := nm (ck G.c (G.L.getD q nd0))
      rw [Hs.out] at HD
      have H0 : Hid (seenB G.c G.L (l.take 0) s = false) := by show _ = _; simp [seenB]
      go_wp2_with fail
      obtain ⟨w0, e0⟩ : ∃ w0 : World, w0 = wr := ⟨_, rfl⟩
      subst e0
      go_loopg [8, 9] j (fun g bv iv wr => ∃ t : Nat, Hid (g = j - t) ∧ t ≤ j ∧ iv = .int .i64 t ∧ ∃ b : Bool, bv = .bool b ∧ Hid (seenB G.c G.L (l.take t) s = !b) ∧ Upd Non w0 wr)
      case atStart => exact ⟨0, rfl, by omega, rfl, true, rfl, H0, Upd.refl⟩
      case round =>
        obtain ⟨t, Hgt, ht, rfl, b, rfl, HB, hut⟩ := hrel
        have hu2 := hu.then_non hut
        have hU := hu1.then_non hu2
        by_cases htj : t < j
        · have htn : t < n := by omega
          have htl : t < l.length := by rw [Hn.out]; exact htn
          have HSN := Lib.hid (seenB_snoc G.c G.L (l.take t) (l.getD t 0) s)
          rw [← HTk.out t htn, getD_of htl] at HSN
          cases b with
          | false =>
            have HB2 : Hid (seenB G.c G.L (l.take (t + 1)) s = !false) := by show _ = _; rw [HSN.out, HB.out]; rfl
            go_wp2_with fail
            go_quiet (fail)
            go_wp2_with fail
            go_roundg (j - (t + 1))
            case measure => rw [Hgt.out]; omega
            case rel => exact ⟨t + 1, rfl, by omega, by go_num, false, rfl, HB2, hut.drewN _⟩
          | true =>
            obtain ⟨p0, p1⟩ := HME.out _ (List.getElem_mem htl)
            obtain ⟨ab', ao', eab, _, _, hcp⟩ := hiv.at_ htl
            obtain ⟨rfl, rfl⟩ : ab = ab' ∧ ao = ao' := by injection eab with e; injection e with e1 e2; exact ⟨e1, e2⟩
            generalize l[t] = y at *
            obtain ⟨p, rfl⟩ := Int.eq_ofNat_of_zero_le p0
            have p1 : p < G.L.length := p1
            have HSN : Hid (seenB G.c G.L (l.take (t + 1)) s = (seenB G.c G.L (l.take t) s || decide (ck G.c (G.L.getD p nd0) = s))) := HSN
            have hM := H.out.non hU
            have hC : decide (Cg G.L.length G.c G.L[p] G.L[q]) = decide (ck G.c (G.L.getD p nd0) = s) := by
              rw [decide_eq_decide, ← Hs.out, HG.out.ck_eq p1 k1]
              exact HG.out.wf.cg_iff p1 k1
            obtain ⟨d, Hdd⟩ := nm (decide (ck G.c (G.L.getD p nd0) = s))
            rw [Hdd.out] at hC HSN
            have HB2 : Hid (seenB G.c G.L (l.take (t + 1)) s = !!d) := by show _ = _; rw [HSN.out, HB.out]; cases d <;> rfl
            obtain ⟨fb, ef, hfb, _⟩ := hM.fat p1
            obtain ⟨lb, lo, ea, _, hlb, n1, n2, KA, kc, n3, hkc, hki⟩ := hM.lv.at_ p1
            obtain ⟨lb', lo', ea', _, hlb', m1, m2, KB, kd, m3, hkd, hkj⟩ := hM.lv.at_ k1
            obtain ⟨rfl, rfl⟩ : lb = lb' ∧ lo = lo' := by rw [ea] at ea'; injection ea' with e; injection e with e1 e2; exact ⟨e1, e2⟩
            have c0' := cell_upd c0 hU (fun f => f)
            have c2' := cell_upd c2 hU (fun f => f)
            rw [ea] at c0'
            rw [ef] at c2'
            have hkl := HG.out.klen p1
            have C2 := Lib.hid (fun W (u : Upd Non wr W) => congruent_c fb a.fc nG W G.c _ G.L[p] G.L[q] KA KB kc kd (by
              have := (hM.non u).row
              rcases this with z | ⟨g, eg, z⟩
              · have := congrArg List.length z; rw [List.length_map, List.length_range, List.length_nil] at this; omega
              · rw [ef] at eg; injection eg with e; injection e with e; subst e; rw [HnG.out] at z; exact z) (hki.upd u (fun _ _ _ f => f)) (hkj.upd u (fun _ _ _ f => f)) (by omega))
            rw [HnG.out] at hC p1
            have k1' := k1
            rw [HnG.out] at k1'
            generalize G.L[p] = na at *
            generalize G.L[q] = nb at *
            rw [hC] at C2
            have z1 := cell_upd hcp hu2 (fun f => f)
            have z2 := cell_upd hcl hu2 (fun f => f)
            have t0 : (0 : Int) ≤ (t : Int) := by omega
            have t1 : (t : Int) < (n : Int) := by omega
            have j0 : (0 : Int) ≤ (j : Int) := by omega
            have j1 : (j : Int) < (n : Int) := by omega
            have p0' : (0 : Int) ≤ (p : Int) := by omega
            have p1' : (p : Int) < (nG : Int) := by omega
            have q0' : (0 : Int) ≤ (q : Int) := by omega
            have q1' : (q : Int) < (nG : Int) := by omega
            have s0 : wr.drew.cell? ⟨rb, 0, none⟩ = some (.slice (some ⟨lb, lo, none⟩) nG a.lc) := c0'
            have s2 : wr.drew.cell? ⟨rb, 2, none⟩ = some (.slice (some ⟨fb, 0, none⟩) nG a.fc) := c2'
            have si : wr.drew.cell? ⟨ab, ao + t, none⟩ = some (.int .i64 (p : Int)) := z1
            have sj : wr.drew.cell? ⟨ab, ao + j, none⟩ = some (.int .i64 (q : Int)) := z2
            have a1 : wr.drew.cell? ⟨lb, lo + p * 3, none⟩ = some (.int .i64 na.op) := n1
            have a2 : wr.drew.cell? ⟨lb, lo + p * 3 + 1, none⟩ = some (.int .i64 na.imm) := n2
            have a3 : wr.drew.cell? ⟨lb, lo + p * 3 + 2, none⟩ = some (.slice KA na.kids.length kc) := n3
            have b1 : wr.drew.cell? ⟨lb, lo + q * 3, none⟩ = some (.int .i64 nb.op) := m1
            have b2 : wr.drew.cell? ⟨lb, lo + q * 3 + 1, none⟩ = some (.int .i64 nb.imm) := m2
            have b3 : wr.drew.cell? ⟨lb, lo + q * 3 + 2, none⟩ = some (.slice KB nb.kids.length kd) := m3
            obtain ⟨w4, e4⟩ : ∃ w4 : World, w4 = wr := ⟨_, rfl⟩
            subst e4
            clear hM ea ea' ef hC
            go_wp2_with fail
            refine wp_region_held_drew (S := fun w' => w'.cell? ⟨rb, 0, none⟩ = some (.slice (some ⟨lb, lo, none⟩) nG a.lc) ∧ w'.cell? ⟨rb, 2, none⟩ = some (.slice (some ⟨fb, 0, none⟩) nG a.fc) ∧ w'.cell? ⟨ab, ao + t, none⟩ = some (.int .i64 (p : Int)) ∧ w'.cell? ⟨ab, ao + j, none⟩ = some (.int .i64 (q : Int)) ∧ w'.cell? ⟨lb, lo + p * 3, none⟩ = some (.int .i64 na.op) ∧ w'.cell? ⟨lb, lo + p * 3 + 1, none⟩ = some (.int .i64 na.imm) ∧ w'.cell? ⟨lb, lo + p * 3 + 2, none⟩ = some (.slice KA na.kids.length kc) ∧ w'.cell? ⟨lb, lo + q * 3, none⟩ = some (.int .i64 nb.op) ∧ w'.cell? ⟨lb, lo + q * 3 + 1, none⟩ = some (.int .i64 nb.imm) ∧ w'.cell? ⟨lb, lo + q * 3 + 2, none⟩ = some (.slice KB nb.kids.length kd)) (by kernel_rfl) ⟨s0, s2, si, sj, a1, a2, a3, b1, b2, b3⟩ (fun hHeld => ?_)
            refine wpAnyH_take (i := 0) (v := ?_) rfl (by kernel_rfl) (by kernel_rfl) (by kernel_rfl) (fun _ _ _ h => h) (Or.inl ⟨by rfl, ?_⟩) (by assumption) ?_
            rotate_left
            · intro w hSw; (try dsimp only at hSw); go_simp; try with_reducible rfl
            try simp only [put_y]
            try simp only [Act.put]
            try simp only [put_z]
            refine wpAnyH_take (i := 1) (v := ?_) rfl (by kernel_rfl) (by kernel_rfl) (by kernel_rfl) (fun _ _ _ h => h) (Or.inl ⟨by rfl, ?_⟩) (by assumption) ?_
            rotate_left
            · intro w hSw; (try dsimp only at hSw); go_simp; try with_reducible rfl
            try simp only [put_y]
            try simp only [Act.put]
            try simp only [put_z]
            refine wpAnyH_take (i := 2) (v := ?_) rfl (by kernel_rfl) (by kernel_rfl) (by kernel_rfl) (fun _ _ _ h => h) (Or.inl ⟨by rfl, ?_⟩) (by assumption) ?_
            rotate_left
            · intro w hSw; (try dsimp only at hSw); go_simp; try with_reducible rfl
            try simp only [put_y]
            try simp only [Act.put]
            try simp only [put_z]
            refine wpAnyH_take (i := 3) (v := ?_) rfl (by kernel_rfl) (by kernel_rfl) (by kernel_rfl) (fun _ _ _ h => h) (Or.inl ⟨by rfl, ?_⟩) (by assumption) ?_
            rotate_left
            · intro w hSw; (try dsimp only at hSw); go_simp; try with_reducible rfl
            try simp only [put_y]
            try simp only [Act.put]
            try simp only [put_z]
            refine wpAnyH_take (i := 4) (v := ?_) rfl (by kernel_rfl) (by kernel_rfl) (by kernel_rfl) (fun _ _ _ h => h) (Or.inl ⟨by rfl, ?_⟩) (by assumption) ?_
            rotate_left
            · intro w hSw; (try dsimp only at hSw); go_simp; try with_reducible rfl
            try simp only [put_y]
            try simp only [Act.put]
            try simp only [put_z]
            refine wpAnyH_take (i := 5) (v := ?_) rfl (by kernel_rfl) (by kernel_rfl) (by kernel_rfl) (fun _ _ _ h => h) (Or.inl ⟨by rfl, ?_⟩) (by assumption) ?_
            rotate_left
            · intro w hSw; (try dsimp only at hSw); go_simp; try with_reducible rfl
            try simp only [put_y]
            try simp only [Act.put]
            try simp only [put_z]
            refine wpAnyH_take (i := 6) (v := ?_) rfl (by kernel_rfl) (by kernel_rfl) (by kernel_rfl) (fun _ _ _ h => h) (Or.inl ⟨by rfl, ?_⟩) (by assumption) ?_
            rotate_left
            · intro w hSw; (try dsimp only at hSw); go_simp; try with_reducible rfl
            try simp only [put_y]
            try simp only [Act.put]
            try simp only [put_z]
            refine wpAnyH_take (i := 7) (v := ?_) rfl (by kernel_rfl) (by kernel_rfl) (by kernel_rfl) (fun _ _ _ h => h) (Or.inl ⟨by rfl, ?_⟩) (by assumption) ?_
            rotate_left
            · intro w hSw; (try dsimp only at hSw); go_simp; try with_reducible rfl
            try simp only [put_y]
            try simp only [Act.put]
            try simp only [put_z]
            refine wpAnyH_take (i := 8) (v := ?_) rfl (by kernel_rfl) (by kernel_rfl) (by kernel_rfl) (fun _ _ _ h => h) (Or.inl ⟨by rfl, ?_⟩) (by assumption) ?_
            rotate_left
            · intro w hSw; (try dsimp only at hSw); go_simp; try with_reducible rfl
            try simp only [put_y]
            try simp only [Act.put]
            try simp only [put_z]
            refine wpAnyH_take (i := 9) (v := ?_) rfl (by kernel_rfl) (by kernel_rfl) (by kernel_rfl) (fun _ _ _ h => h) (Or.inl ⟨by rfl, ?_⟩) (by assumption) ?_
            rotate_left
            · intro w hSw; (try dsimp only at hSw); go_simp; try with_reducible rfl
            try simp only [put_y]
            try simp only [Act.put]
            try simp only [put_z]
            refine wpAnyH_take (i := 10) (v := ?_) rfl (by kernel_rfl) (by kernel_rfl) (by kernel_rfl) (fun _ _ _ h => h) (Or.inl ⟨by rfl, ?_⟩) (by assumption) ?_
            rotate_left
            · intro w hSw; (try dsimp only at hSw); go_simp; try with_reducible rfl
            try simp only [put_y]
            try simp only [Act.put]
            try simp only [put_z]
            refine wpAnyH_take (i := 11) (v := ?_) rfl (by kernel_rfl) (by kernel_rfl) (by kernel_rfl) (fun _ _ _ h => h) (Or.inl ⟨by rfl, ?_⟩) (by assumption) ?_
            rotate_left
            · intro w hSw; (try dsimp only at hSw); go_simp; try with_reducible rfl
            try simp only [put_y]
            try simp only [Act.put]
            try simp only [put_z]
            refine wpAnyH_take (i := 12) (v := ?_) rfl (by kernel_rfl) (by kernel_rfl) (by kernel_rfl) (fun _ _ _ h => h) (Or.inl ⟨by rfl, ?_⟩) (by assumption) ?_
            rotate_left
            · intro w hSw; (try dsimp only at hSw); go_simp; try with_reducible rfl
            try simp only [put_y]
            try simp only [Act.put]
            try simp only [put_z]
            refine wpAnyH_take (i := 13) (v := ?_) rfl (by kernel_rfl) (by kernel_rfl) (by kernel_rfl) (fun _ _ _ h => h) (Or.inl ⟨by rfl, ?_⟩) (by assumption) ?_
            rotate_left
            · intro w hSw; (try dsimp only at hSw); go_simp; try with_reducible rfl
            try simp only [put_y]
            try simp only [Act.put]
            try simp only [put_z]
            refine wpAnyH_take (i := 14) (v := ?_) rfl (by kernel_rfl) (by kernel_rfl) (by kernel_rfl) (fun _ _ _ h => h) (Or.inl ⟨by rfl, ?_⟩) (by assumption) ?_
            rotate_left
            · intro w hSw; (try dsimp only at hSw); go_simp; try with_reducible rfl
            try simp only [put_y]
            try simp only [Act.put]
            try simp only [put_z]
            refine wpAnyH_take (i := 15) (v := ?_) rfl (by kernel_rfl) (by kernel_rfl) (by kernel_rfl) (fun _ _ _ h => h) (Or.inl ⟨by rfl, ?_⟩) (by assumption) ?_
            rotate_left
            · intro w hSw; (try dsimp only at hSw); go_simp; try with_reducible rfl
            try simp only [put_y]
            try simp only [Act.put]
            try simp only [put_z]
            refine wpAnyH_take (i := 16) (v := ?_) rfl (by kernel_rfl) (by kernel_rfl) (by kernel_rfl) (fun _ _ _ h => h) (Or.inl ⟨by rfl, ?_⟩) (by assumption) ?_
            rotate_left
            · intro w hSw; (try dsimp only at hSw); go_simp; try with_reducible rfl
            try simp only [put_y]
            try simp only [Act.put]
            try simp only [put_z]
            refine wpAnyH_take (i := 17) (v := ?_) rfl (by kernel_rfl) (by kernel_rfl) (by kernel_rfl) (fun _ _ _ h => h) (Or.inl ⟨by rfl, ?_⟩) (by assumption) ?_
            rotate_left
            · intro w hSw; (try dsimp only at hSw); go_simp; try with_reducible rfl
            try simp only [put_y]
            try simp only [Act.put]
            try simp only [put_z]
            refine wpAnyH_take (i := 18) (v := ?_) rfl (by kernel_rfl) (by kernel_rfl) (by kernel_rfl) (fun _ _ _ h => h) (Or.inl ⟨by rfl, ?_⟩) (by assumption) ?_
            rotate_left
            · intro w hSw; (try dsimp only at hSw); go_simp; try with_reducible rfl
            try simp only [put_y]
            try simp only [Act.put]
            try simp only [put_z]
            refine wpAnyH_take (i := 19) (v := ?_) rfl (by kernel_rfl) (by kernel_rfl) (by kernel_rfl) (fun _ _ _ h => h) (Or.inl ⟨by rfl, ?_⟩) (by assumption) ?_
            rotate_left
            · intro w hSw; (try dsimp only at hSw); go_simp; try with_reducible rfl
            try simp only [put_y]
            try simp only [Act.put]
            try simp only [put_z]
            refine wpAnyH_take (i := 20) (v := ?_) rfl (by kernel_rfl) (by kernel_rfl) (by kernel_rfl) (fun _ _ _ h => h) (Or.inl ⟨by rfl, ?_⟩) (by assumption) ?_
            rotate_left
            · intro w hSw; (try dsimp only at hSw); go_simp; try with_reducible rfl
            try simp only [put_y]
            try simp only [Act.put]
            try simp only [put_z]
            refine wpAnyH_take (i := 21) (v := ?_) rfl (by kernel_rfl) (by kernel_rfl) (by kernel_rfl) (fun _ _ _ h => h) (Or.inl ⟨by rfl, ?_⟩) (by assumption) ?_
            rotate_left
            · intro w hSw; (try dsimp only at hSw); go_simp; try with_reducible rfl
            try simp only [put_y]
            try simp only [Act.put]
            try simp only [put_z]
            refine wpAnyH_take (i := 22) (v := ?_) rfl (by kernel_rfl) (by kernel_rfl) (by kernel_rfl) (fun _ _ _ h => h) (Or.inl ⟨by rfl, ?_⟩) (by assumption) ?_
            rotate_left
            · intro w hSw; (try dsimp only at hSw); go_simp; try with_reducible rfl
            try simp only [put_y]
            try simp only [Act.put]
            try simp only [put_z]
            refine wpAnyH_take (i := 23) (v := ?_) rfl (by kernel_rfl) (by kernel_rfl) (by kernel_rfl) (fun _ _ _ h => h) (Or.inl ⟨by rfl, ?_⟩) (by assumption) ?_
            rotate_left
            · intro w hSw; (try dsimp only at hSw); go_simp; try with_reducible rfl
            try simp only [put_y]
            try simp only [Act.put]
            try simp only [put_z]
            refine wpAnyH_take (i := 24) (v := ?_) rfl (by kernel_rfl) (by kernel_rfl) (by kernel_rfl) (fun _ _ _ h => h) (Or.inl ⟨by rfl, ?_⟩) (by assumption) ?_
            rotate_left
            · intro w hSw; (try dsimp only at hSw); go_simp; try with_reducible rfl
            try simp only [put_y]
            try simp only [Act.put]
            try simp only [put_z]
            refine wpAnyH_take (i := 25) (v := ?_) rfl (by kernel_rfl) (by kernel_rfl) (by kernel_rfl) (fun _ _ _ h => h) (Or.inl ⟨by rfl, ?_⟩) (by assumption) ?_
            rotate_left
            · intro w hSw; (try dsimp only at hSw); go_simp; try with_reducible rfl
            try simp only [put_y]
            try simp only [Act.put]
            try simp only [put_z]
            refine wpAnyH_ready (rs := [26]) (by kernel_rfl) (by simp) ?_
            refine AllReadyH.cons rfl (fun K hK => ?_) AllReadyH.nil
            go_simp
            refine (C2.out w4.drew (Upd.refl.drew (S := Non))).mono ?_
            rintro e w3 ⟨rfl, hu3'⟩
            have hu3 : Upd Non w4 w3 := Upd.refl.drew.then_non hu3'
            go_wp2_with fail
            refine hK.out _ _ ?_ (fun hHeld => ?_)
            · exact ⟨cell_upd c0' hu3 (fun f => f), cell_upd c2' hu3 (fun f => f), cell_upd z1 hu3 (fun f => f), cell_upd z2 hu3 (fun f => f), cell_upd n1 hu3 (fun f => f), cell_upd n2 hu3 (fun f => f), cell_upd n3 hu3 (fun f => f), cell_upd m1 hu3 (fun f => f), cell_upd m2 hu3 (fun f => f), cell_upd m3 hu3 (fun f => f)⟩
            clear hK K
            try simp only [put_y]
            try simp only [Act.put]
            try simp only [put_z]
            refine wpAnyH_take (i := 27) (v := ?_) rfl (by kernel_rfl) (by kernel_rfl) (by kernel_rfl) (fun _ _ _ h => h) (Or.inl ⟨by rfl, ?_⟩) (by assumption) ?_
            rotate_left
            · intro w hSw; (try dsimp only at hSw); go_simp; try with_reducible rfl
            try simp only [put_y]
            try simp only [Act.put]
            try simp only [put_z]
            refine wpAnyH_take (i := 28) (v := ?_) rfl (by kernel_rfl) (by kernel_rfl) (by kernel_rfl) (fun _ _ _ h => h) (Or.inl ⟨by rfl, ?_⟩) (by assumption) ?_
            rotate_left
            · intro w hSw; (try dsimp only at hSw); go_simp; try with_reducible rfl
            try simp only [put_y]
            try simp only [Act.put]
            try simp only [put_z]
            refine wpAnyH_take (i := 29) (v := ?_) rfl (by kernel_rfl) (by kernel_rfl) (by kernel_rfl) (fun _ _ _ h => h) (Or.inl ⟨by rfl, ?_⟩) (by assumption) ?_
            rotate_left
            · intro w hSw; (try dsimp only at hSw); go_simp; try with_reducible rfl
            try simp only [put_y]
            try simp only [Act.put]
            try simp only [put_z]
            refine wpAnyH_done (by kernel_rfl) ?_ _
            go_wp2_with fail
            go_roundg (j - (t + 1))
            case measure => rw [Hgt.out]; omega
            case rel => exact ⟨t + 1, rfl, by omega, by go_num, !d, rfl, HB2, hut.then_non hu3⟩
        · obtain rfl : j = t := by omega
          rw [HB.out] at HD
          cases b with
          | false =>
            have HD2 : Hid (distTo G.c G.L l (j + 1) = distTo G.c G.L l j) := HD.out
            have ho4 := ho3.upd hut (fun _ _ f => f)
            go_wp2_with fail
            go_roundg (n - (j + 1))
            case measure => rw [Hg.out]; omega
            case rel => exact ⟨j + 1, m, c3, A3, rfl, by omega, by go_num, rfl, by show _ = _; rw [HD2.out, Hm.out], by omega, by rw [HD2.out]; exact ho4, HA3, hu2⟩
          | true =>
            have HD2 : Hid (distTo G.c G.L l (j + 1) = distTo G.c G.L l j ++ [(q : Int)]) := HD.out
            have ho4 := ho3.upd hut (fun _ _ f => f)
            have z2 := cell_upd hcl hu2 (fun f => f)
            clear hclr
            go_wp2_with (at_builtin; refine wpList_app rfl rfl T_ints' rfl (ho4.alloc _) rfl (Sl.new _ _ _) rfl (by simp [Value.oneCell']) (by simp only [maxLen]; omega) (by omega) ?_; intro A5 c5 w5 ho5 hu5 hat5)
            go_roundg (n - (j + 1))
            case measure => rw [Hg.out]; omega
            case rel =>
              refine ⟨j + 1, m + 1, c5, A5, rfl, by omega, by go_num, rfl, by show _ = _; rw [HD2.out, Hm.out]; simp, by omega, by rw [HD2.out, icells_snoc]; exact ho5, fun k hk => ?_, (hu2.alloc _).trans hu5 (fun k hk h => by have := HA3.out k h; omega)⟩
              rcases hat5 k hk with h | h
              · exact HA3.out k h
              · have := hu2.size; simp at h; omega
    · obtain rfl : n = j := by omega
      rw [← Hn.out] at ho3 Hm
      go_wp2_with fail
      go_ret
      exact ⟨A3, c3, by rw [← Hm.out]; rfl, by rw [← Hm.out]; exact ho3, fun k hk => Nat.le_trans hu1.size (HA3.out k hk), hu1.then_non hu⟩
end Go.Proofs.Ytigambcefdeaoaa
