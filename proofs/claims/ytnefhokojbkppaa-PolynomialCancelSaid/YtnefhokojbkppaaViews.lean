/-
  Slices of nodes and of pairs, as they lie in memory. No condition of its own.
-/
import Derived.Test.YtnefhokojbkppaaBase
import Derived.Test.YtnefhokojbkppaaCong
import Derived.Laws.MakeOwn
import Derived.Deep.LoopGhost
import Derived.Deep.QuietTactic
import Derived.BigQuiet
import Derived.Deep.DeepCutAuto
namespace Go.Proofs.Ytnefhokojbkppaa
open Go.RowKit

theorem nm {α : Type} (a : α) : ∃ x, Hid (a = x) := ⟨a, show a = a from rfl⟩

theorem Blk.new' {w : World} {t : TypeId} {cs : Array Value} {n : Nat} (h : n = w.heap.size) : Blk (w.alloc (.cells cs t)) n t cs := by subst h; exact Blk.new w t cs

theorem Ints.new {w : World} {t : TypeId} {cs : Array Value} (xs : List Int) (h : cs = (xs.map fun x => Value.int .i64 x).toArray) {n : Nat} (hn : n = w.heap.size) : Ints (w.alloc (.cells cs t)) (fun _ => True) (some ⟨n, 0, none⟩) xs := by
  subst h; subst hn
  have := Sl.of_blk (F := fun _ => True) trivial (Blk.new w t (xs.map fun x => Value.int .i64 x).toArray) xs.length
  unfold Ints
  rw [List.take_of_length_le (by simp)] at this
  simpa using this

def NodeAt (w : World) (F : Nat → Prop) (b o : Nat) (nd : Nd) : Prop :=
  w.cell? ⟨b, o, none⟩ = some (.int .i64 nd.op) ∧ w.cell? ⟨b, o + 1, none⟩ = some (.int .i64 nd.imm) ∧
    ∃ KA kc, w.cell? ⟨b, o + 2, none⟩ = some (.slice KA nd.kids.length kc) ∧ nd.kids.length ≤ kc ∧ Ints w F KA nd.kids
def NodesV (w : World) (F : Nat → Prop) (A : Option Addr) (L : List Nd) : Prop :=
  L = [] ∨ ∃ b off, A = some ⟨b, off, none⟩ ∧ F b ∧ ∀ i (h : i < L.length), NodeAt w F b (off + i * 3) L[i]
def PairsV (w : World) (F : Nat → Prop) (A : Option Addr) (ps : List (Int × Int)) : Prop :=
  ps = [] ∨ ∃ b off, A = some ⟨b, off, none⟩ ∧ F b ∧ ∀ i (h : i < ps.length), w.cell? ⟨b, off + i * 2, none⟩ = some (.int .i64 ps[i].1) ∧ w.cell? ⟨b, off + i * 2 + 1, none⟩ = some (.int .i64 ps[i].2)

section
variable {w w' : World} {F G S : Nat → Prop} {A : Option Addr} {L : List Nd} {ps : List (Int × Int)}
theorem cell_upd {b o : Nat} {v : Value} (h : w.cell? ⟨b, o, none⟩ = some v) (u : Upd S w w') (d : ¬ S b) : w'.cell? ⟨b, o, none⟩ = some v :=
  (World.cell?_of_block (w := w) (u.block b (World.block_lt_of_cell? w _ h) d)).trans h
theorem NodeAt.upd {b o : Nat} {nd : Nd} (h : NodeAt w F b o nd) (u : Upd S w w') (d : ∀ k, k < w.heap.size → F k → ¬ S k) (db : ¬ S b) : NodeAt w' F b o nd := by
  obtain ⟨h1, h2, KA, kc, h3, h4, h5⟩ := h
  exact ⟨cell_upd h1 u db, cell_upd h2 u db, KA, kc, cell_upd h3 u db, h4, h5.upd u d⟩
theorem NodesV.upd (h : NodesV w F A L) (u : Upd S w w') (d : ∀ k, k < w.heap.size → F k → ¬ S k) : NodesV w' F A L := by
  rcases h with h | ⟨b, off, e, hF, hc⟩
  · exact .inl h
  · exact .inr ⟨b, off, e, hF, fun i hi => (hc i hi).upd u d (d b (World.block_lt_of_cell? w _ (hc i hi).1) hF)⟩
theorem NodesV.at_ (h : NodesV w F A L) {i : Nat} (hi : i < L.length) : ∃ b off, A = some ⟨b, off, none⟩ ∧ F b ∧ b < w.heap.size ∧ NodeAt w F b (off + i * 3) L[i] := by
  rcases h with h | ⟨b, off, e, hF, hc⟩
  · subst h; simp at hi
  · exact ⟨b, off, e, hF, World.block_lt_of_cell? w _ (hc i hi).1, hc i hi⟩
theorem NodesV.mono (h : NodesV w F A L) (hFG : ∀ k, k < w.heap.size → F k → G k) : NodesV w G A L := by
  rcases h with h | ⟨b, off, e, hF, hc⟩
  · exact .inl h
  · by_cases hn : L = []
    · exact .inl hn
    · have h0 : 0 < L.length := List.length_pos_iff.2 hn
      refine .inr ⟨b, off, e, hFG b (World.block_lt_of_cell? w _ (hc 0 h0).1) hF, fun i hi => ?_⟩
      obtain ⟨h1, h2, KA, kc, h3, h4, h5⟩ := hc i hi
      exact ⟨h1, h2, KA, kc, h3, h4, h5.mono hFG⟩
theorem PairsV.upd (h : PairsV w F A ps) (u : Upd S w w') (d : ∀ k, k < w.heap.size → F k → ¬ S k) : PairsV w' F A ps := by
  rcases h with h | ⟨b, off, e, hF, hc⟩
  · exact .inl h
  · exact .inr ⟨b, off, e, hF, fun i hi => by
      have hb := d b (World.block_lt_of_cell? w _ (hc i hi).1) hF
      exact ⟨cell_upd (hc i hi).1 u hb, cell_upd (hc i hi).2 u hb⟩⟩
theorem PairsV.at_ (h : PairsV w F A ps) {i : Nat} (hi : i < ps.length) : ∃ b off, A = some ⟨b, off, none⟩ ∧ F b ∧ b < w.heap.size ∧ w.cell? ⟨b, off + i * 2, none⟩ = some (.int .i64 ps[i].1) ∧ w.cell? ⟨b, off + i * 2 + 1, none⟩ = some (.int .i64 ps[i].2) := by
  rcases h with h | ⟨b, off, e, hF, hc⟩
  · subst h; simp at hi
  · exact ⟨b, off, e, hF, World.block_lt_of_cell? w _ (hc i hi).1, hc i hi⟩
theorem PairsV.mono (h : PairsV w F A ps) (hFG : ∀ k, k < w.heap.size → F k → G k) : PairsV w G A ps := by
  rcases h with h | ⟨b, off, e, hF, hc⟩
  · exact .inl h
  · by_cases hn : ps = []
    · exact .inl hn
    · have h0 : 0 < ps.length := List.length_pos_iff.2 hn
      exact .inr ⟨b, off, e, hFG b (World.block_lt_of_cell? w _ (hc 0 h0).1) hF, hc⟩
end

/-- make([]T, n), T of one cell. -/
theorem run_mk {P : Program} {t e : TypeId} {bytes : Nat} (T : SlT P t e 1 bytes) {z : Value} (hz : (P.info? e).bind (·.zero) = some z) (hzc : z.cells = #[z]) (n : Nat) (hb : bytes * n ≤ 281474976710656) (hn : n ≤ 9223372036854775807) (w : World) :
    (Instr.makeSlice t (.int .i64 (n : Int)) (.int .i64 (n : Int))).run P w = .ok (.slice (some ⟨w.heap.size, 0, none⟩) n n) (w.alloc (.cells (Array.replicate n z) e)) := by
  obtain ⟨ht, ⟨i, z', hi, hz', hsz, hby, hzs⟩, _⟩ := T
  have : z' = z := by rw [hi] at hz; simp [hz'] at hz; exact hz
  subst this
  have hb' : (i.bytes : Int) * (n : Int) ≤ 281474976710656 := by
    have h : ((i.bytes * n : Nat) : Int) ≤ 281474976710656 := by rw [hby]; omega
    rwa [Int.natCast_mul] at h
  have hr := run_make (P := P) w t e i z' ht hi hz' .i64 .i64 n n (by omega) (by omega) hb' (by omega)
  simp only [Int.toNat_natCast, hsz, Nat.mul_one, hzc] at hr
  rw [hr]
  congr 2
  congr 1
  apply Array.ext
  · simp [size_madeCells]
  · intro j h1 h2
    simp [madeCells, Nat.mod_one]

end Go.Proofs.Ytnefhokojbkppaa
