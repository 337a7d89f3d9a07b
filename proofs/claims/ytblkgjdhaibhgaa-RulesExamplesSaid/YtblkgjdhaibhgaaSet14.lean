/-
  The cells of a rule, stored.
-/
import Derived.Test.YtblkgjdhaibhgaaPtV
namespace Go.Proofs.Ytblkgjdhaibhgaa
open Go.RowKit

/-! The fourteen cells of a rule, stored one after the other -/

def set14 (w : World) (g : Nat) (a b c d e f g1 h i j k l m n : Value) : World := (((((((((set5 w g a b c d e).setCell ⟨g, 5, none⟩ f).setCell ⟨g, 6, none⟩ g1).setCell ⟨g, 7, none⟩ h).setCell ⟨g, 8, none⟩ i).setCell ⟨g, 9, none⟩ j).setCell ⟨g, 10, none⟩ k).setCell ⟨g, 11, none⟩ l).setCell ⟨g, 12, none⟩ m).setCell ⟨g, 13, none⟩ n
theorem set14_blk {w : World} {g : Nat} {t : TypeId} {x0 x1 x2 x3 x4 x5 x6 x7 x8 x9 x10 x11 x12 x13 : Value} (h : Blk w g t #[x0, x1, x2, x3, x4, x5, x6, x7, x8, x9, x10, x11, x12, x13]) (a b c d e f g1 i j k l m n o : Value) : Blk (set14 w g a b c d e f g1 i j k l m n o) g t #[a, b, c, d, e, f, g1, i, j, k, l, m, n, o] := by
  unfold set14 set5
  simpa using (((((((((((((h.set_ 0 a).set_ 1 b).set_ 2 c).set_ 3 d).set_ 4 e).set_ 5 f).set_ 6 g1).set_ 7 i).set_ 8 j).set_ 9 k).set_ 10 l).set_ 11 m).set_ 12 n).set_ 13 o
theorem set14_upd (w : World) (g : Nat) (a b c d e f g1 i j k l m n o : Value) : Upd (· = g) w (set14 w g a b c d e f g1 i j k l m n o) := by
  have s : ∀ (w : World) (i : Nat) (v : Value), Upd (· = g) w (w.setCell ⟨g, i, none⟩ v) := fun w i v => updCell _ _ _ _
  have t : ∀ {a b c : World}, Upd (· = g) a b → Upd (· = g) b c → Upd (· = g) a c := fun h k => h.trans k (fun _ _ h => h)
  exact t (t (t (t (t (t (t (t (t (set5_upd _ _ _ _ _ _ _) (s _ _ _)) (s _ _ _)) (s _ _ _)) (s _ _ _)) (s _ _ _)) (s _ _ _)) (s _ _ _)) (s _ _ _)) (s _ _ _)
theorem set14_eq (w : World) (g : Nat) (a b c d e f g1 h i j k l m n : Value) : (((((((((((((w.setCell ⟨g, 0, none⟩ a).setCell ⟨g, 1, none⟩ b).setCell ⟨g, 2, none⟩ c).setCell ⟨g, 3, none⟩ d).setCell ⟨g, 4, none⟩ e).setCell ⟨g, 5, none⟩ f).setCell ⟨g, 6, none⟩ g1).setCell ⟨g, 7, none⟩ h).setCell ⟨g, 8, none⟩ i).setCell ⟨g, 9, none⟩ j).setCell ⟨g, 10, none⟩ k).setCell ⟨g, 11, none⟩ l).setCell ⟨g, 12, none⟩ m).setCell ⟨g, 13, none⟩ n = set14 w g a b c d e f g1 h i j k l m n := rfl
/-- The right side stored. -/
def setRt (w : World) (g : Nat) (a b c d e : Value) : World := ((((w.setCell ⟨g, 6, none⟩ a).setCell ⟨g, 7, none⟩ b).setCell ⟨g, 8, none⟩ c).setCell ⟨g, 9, none⟩ d).setCell ⟨g, 10, none⟩ e
theorem setRt_blk {w : World} {g : Nat} {t : TypeId} {x0 x1 x2 x3 x4 x5 x6 x7 x8 x9 x10 x11 x12 x13 : Value} (h : Blk w g t #[x0, x1, x2, x3, x4, x5, x6, x7, x8, x9, x10, x11, x12, x13]) (a b c d e : Value) : Blk (setRt w g a b c d e) g t #[x0, x1, x2, x3, x4, x5, a, b, c, d, e, x11, x12, x13] := by
  unfold setRt
  simpa using ((((h.set_ 6 a).set_ 7 b).set_ 8 c).set_ 9 d).set_ 10 e
theorem setRt_upd (w : World) (g : Nat) (a b c d e : Value) : Upd (· = g) w (setRt w g a b c d e) := by
  have s : ∀ (w : World) (i : Nat) (v : Value), Upd (· = g) w (w.setCell ⟨g, i, none⟩ v) := fun w i v => updCell _ _ _ _
  have t : ∀ {a b c : World}, Upd (· = g) a b → Upd (· = g) b c → Upd (· = g) a c := fun h k => h.trans k (fun _ _ h => h)
  exact t (t (t (t (s _ _ _) (s _ _ _)) (s _ _ _)) (s _ _ _)) (s _ _ _)
theorem setRt_eq (w : World) (g : Nat) (a b c d e : Value) : ((((w.setCell ⟨g, 6, none⟩ a).setCell ⟨g, 7, none⟩ b).setCell ⟨g, 8, none⟩ c).setCell ⟨g, 9, none⟩ d).setCell ⟨g, 10, none⟩ e = setRt w g a b c d e := rfl
end Go.Proofs.Ytblkgjdhaibhgaa
