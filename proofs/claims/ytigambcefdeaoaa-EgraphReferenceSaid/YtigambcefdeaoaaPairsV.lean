/-
  Pairs in a slice that the call owns. No condition of its own.
-/
import Derived.Test.YtigambcefdeaoaaNodes
namespace Go.Proofs.Ytigambcefdeaoaa
open Go.RowKit

def pcells (ps : List (Int × Int)) : List Value := ps.flatMap fun p => [Value.int .i64 p.1, Value.int .i64 p.2]
theorem pcells_snoc (ps : List (Int × Int)) (p : Int × Int) : pcells (ps ++ [p]) = pcells ps ++ [.int .i64 p.1, .int .i64 p.2] := by simp [pcells]
theorem pcells_get : ∀ (ps : List (Int × Int)) (i : Nat) (h : i < ps.length), (pcells ps)[i * 2]? = some (.int .i64 ps[i].1) ∧ (pcells ps)[i * 2 + 1]? = some (.int .i64 ps[i].2)
  | p :: ps, 0, _ => ⟨rfl, rfl⟩
  | p :: ps, i + 1, h => by
    have ih := pcells_get ps i (by simpa using h)
    have e : (i + 1) * 2 = i * 2 + 1 + 1 := by omega
    rw [e]
    exact ih
theorem T_pairs : SlT Try.prog 65 66 2 16 := by
  obtain ⟨i, h1, h2, h3, h4⟩ := info_parts (show (Try.prog.info? 66).map (fun i => (i.zero, i.size, i.bytes)) = some (some (.agg #[.int .i64 0, .int .i64 0]), 2, 16) from by kernel_rfl)
  exact ⟨Try.underlying65, ⟨i, _, h1, h2, h3, h4, rfl⟩, by omega⟩
theorem Own.pairs {w : World} {A : Option Addr} {n c : Nat} {ps : List (Int × Int)} (h : Own w 66 2 A n c (pcells ps)) : PairsV w (At A) A ps := by
  rcases h.sl with h0 | ⟨b, off, e, hF, hc⟩
  · cases ps with
    | nil => exact .inl rfl
    | cons p ps => simp [pcells] at h0
  · refine .inr ⟨b, off, e, hF, fun i hi => ?_⟩
    obtain ⟨h1, h2⟩ := pcells_get ps i hi
    obtain ⟨l1, e1⟩ := List.getElem?_eq_some_iff.1 h1
    obtain ⟨l2, e2⟩ := List.getElem?_eq_some_iff.1 h2
    exact ⟨by rw [hc _ l1, e1], by rw [Nat.add_assoc, hc _ l2, e2]⟩

end Go.Proofs.Ytigambcefdeaoaa
