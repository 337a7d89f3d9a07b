/-
  Patterns that the code makes: their operands in a block of their own. No condition of its own.
-/
import Derived.Test.YtnefhokojbkppaaPtV
namespace Go.Proofs.Ytnefhokojbkppaa
open Go.RowKit

section
variable {w : World} {F : Nat → Prop} {g : Nat}
theorem PtK.leaf {v op imm iv : Int} {KA : Option Addr} {kc : Nat} : PtK w F (.mk v op imm iv []) KA kc := by rw [PtK.iff]; exact ⟨by simp [Pt.kids], .inl rfl⟩
theorem PtK.one {k0 : Pt} {KA0 : Option Addr} {kc0 kc : Nat} (v op imm iv : Int) (h : Blk w g 24 #[.int .i64 k0.v, .int .i64 k0.op, .int .i64 k0.imm, .int .i64 k0.iv, .slice KA0 k0.kids.length kc0]) (h0 : PtK w F k0 KA0 kc0) (hF : F g) (hkc : 1 ≤ kc) :
    PtK w F (.mk v op imm iv [k0]) (some ⟨g, 0, none⟩) kc := by
  rw [PtK.iff]
  refine ⟨hkc, .inr ⟨g, 0, rfl, hF, PtL.of fun i hi => ?_⟩⟩
  have : i = 0 := by simp [Pt.kids] at hi; omega
  subst this
  exact ⟨KA0, kc0, h.cell 0, h.cell 1, h.cell 2, h.cell 3, h.cell 4, h0⟩
theorem PtK.two {k0 k1 : Pt} {KA0 KA1 : Option Addr} {kc0 kc1 kc : Nat} (v op imm iv : Int) (h : Blk w g 24 #[.int .i64 k0.v, .int .i64 k0.op, .int .i64 k0.imm, .int .i64 k0.iv, .slice KA0 k0.kids.length kc0, .int .i64 k1.v, .int .i64 k1.op, .int .i64 k1.imm, .int .i64 k1.iv, .slice KA1 k1.kids.length kc1]) (h0 : PtK w F k0 KA0 kc0) (h1 : PtK w F k1 KA1 kc1) (hF : F g) (hkc : 2 ≤ kc) :
    PtK w F (.mk v op imm iv [k0, k1]) (some ⟨g, 0, none⟩) kc := by
  rw [PtK.iff]
  refine ⟨hkc, .inr ⟨g, 0, rfl, hF, PtL.of fun i hi => ?_⟩⟩
  have : i = 0 ∨ i = 1 := by simp [Pt.kids] at hi; omega
  rcases this with rfl | rfl
  · exact ⟨KA0, kc0, h.cell 0, h.cell 1, h.cell 2, h.cell 3, h.cell 4, h0⟩
  · exact ⟨KA1, kc1, h.cell 5, h.cell 6, h.cell 7, h.cell 8, h.cell 9, h1⟩
end
theorem Pt.size_leaf (v op imm iv : Int) : (Pt.mk v op imm iv []).size = 1 := by simp [Pt.size, Pt.sizeL]
theorem Pt.size_one (v op imm iv : Int) (a : Pt) : (Pt.mk v op imm iv [a]).size = 1 + a.size := by simp [Pt.size, Pt.sizeL]
theorem Pt.size_two (v op imm iv : Int) (a b : Pt) : (Pt.mk v op imm iv [a, b]).size = 1 + (a.size + b.size) := by simp [Pt.size, Pt.sizeL]
end Go.Proofs.Ytnefhokojbkppaa
