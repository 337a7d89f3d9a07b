/-
  What the reader's item keeps in memory: blocks of its own that the reader never touches.
  The reader's item: its closure, and the small steps of the reader in it.
  The reader's rule against the plain parser's, step by step. No program in sight.
  The conditions of a rule as the reader's item gathers them: in a slice of its own, against the plain parser's.
-/
import Derived.Test.YtblkgjdhaibhgaaCndW
namespace Go.Proofs.Ytblkgjdhaibhgaa
open Go.RowKit

/-- The reader in a call whose own blocks are P. -/
structure LocP (P : Nat → Prop) (w0 w : World) (p : Nat) (A : Option Addr) (c : Nat) (L : List Tok) (x y : St) : Prop where
  rd : RdS w p A c L y
  own : ∀ k, y.own p k → x.own p k ∨ w0.heap.size ≤ k
  pr : ∀ k, P k → w0.heap.size ≤ k ∧ k < w.heap.size ∧ ¬ y.own p k
  xlt : ∀ k, x.own p k → k < w0.heap.size
  upd : Upd (x.own p) w0 w
section
variable {P P' S : Nat → Prop} {w0 w w' : World} {p : Nat} {A : Option Addr} {c : Nat} {L : List Tok} {x y y' : St}
theorem LocP.start (h : RdS w p A c L x) : LocP (fun _ => False) w w p A c L x x := ⟨h, fun _ q => .inl q, fun _ f => f.elim, fun _ q => h.lt q, Upd.refl⟩
theorem LocP.le (h : LocP P w0 w p A c L x y) : w0.heap.size ≤ w.heap.size := h.upd.size
/-- A step of the reader. -/
theorem LocP.call (h : LocP P w0 w p A c L x y) (hr : RdS w' p A c L y') (ho : ∀ k, y'.own p k → y.own p k ∨ w.heap.size ≤ k) (u : Upd (y.own p) w w') : LocP P w0 w' p A c L x y' := by
  have hl := h.le
  refine ⟨hr, fun k q => ?_, fun k q => ?_, h.xlt, h.upd.trans u (fun k hk q => ?_)⟩
  · rcases ho k q with r | r
    · exact h.own k r
    · exact .inr (by omega)
  · obtain ⟨h1, h2, h3⟩ := h.pr k q
    refine ⟨h1, Nat.lt_of_lt_of_le h2 u.size, fun r => ?_⟩
    rcases ho k r with r | r
    · exact h3 r
    · omega
  · rcases h.own k q with r | r
    · exact r
    · omega
theorem LocP.keep (h : LocP P w0 w p A c L x y) (u : Upd (y.own p) w w') {b : Nat} (hP : P b) {t : TypeId} {cs : Array Value} (hb : Blk w b t cs) : Blk w' b t cs := hb.upd u (h.pr b hP).2.2
/-- A change of the own blocks; new ones come in. -/
theorem LocP.turn (h : LocP P w0 w p A c L x y) (u : Upd S w w') (hS : ∀ k, k < w.heap.size → S k → P k) (hP : ∀ k, P' k → P k ∨ (w.heap.size ≤ k ∧ k < w'.heap.size)) : LocP P' w0 w' p A c L x y := by
  have hp := h.xlt p (.inl rfl)
  refine ⟨h.rd.upd u (fun k hk q => ?_), h.own, fun k q => ?_, h.xlt, h.upd.trans u (fun k hk q => ?_)⟩
  · obtain ⟨h1, h2, h3⟩ := h.pr k (hS k hk q)
    exact ⟨by omega, fun r => h3 (.inr (.inl r)), fun r => h3 (.inr (.inr r))⟩
  · rcases hP k q with r | r
    · obtain ⟨h1, h2, h3⟩ := h.pr k r
      exact ⟨h1, Nat.lt_of_lt_of_le h2 u.size, h3⟩
    · exact ⟨Nat.le_trans h.le r.1, r.2, fun q => by have := h.rd.lt q; omega⟩
  · have := (h.pr k (hS k (Nat.lt_of_lt_of_le hk h.le) q)).1
    omega
theorem LocP.alloc (h : LocP P w0 w p A c L x y) (o : Obj) : LocP (fun k => P k ∨ k = w.heap.size) w0 (w.alloc o) p A c L x y :=
  h.turn (S := Non) (Upd.refl.alloc o) (fun _ _ f => f.elim) (fun k q => by
    rcases q with q | q
    · exact .inl q
    · exact .inr ⟨by omega, by simp; omega⟩)
theorem LocP.non (h : LocP P w0 w p A c L x y) (u : Upd Non w w') : LocP P w0 w' p A c L x y := h.turn u (fun _ _ f => f.elim) (fun _ q => .inl q)
/-- A pattern that was read, in blocks that are neither the reader's nor the call's own. -/
def KpS (P : Nat → Prop) (n0 p : Nat) (w : World) (y : St) (q : Pt) (KA : Option Addr) (kc : Nat) : Prop := PtK w (fun k => n0 ≤ k ∧ ¬ y.own p k ∧ ¬ P k) q KA kc
theorem KpS.new {n0 : Nat} {q : Pt} {KA : Option Addr} {kc n1 : Nat} (h : PtK w (fun k => n1 ≤ k ∧ ¬ y.own p k) q KA kc) (hP : ∀ k, P k → k < n1) (hn : n0 ≤ n1) : KpS P n0 p w y q KA kc :=
  PtK.mono (fun k _ r => ⟨Nat.le_trans hn r.1, r.2, fun s => Nat.lt_irrefl _ (Nat.lt_of_lt_of_le (hP k s) r.1)⟩) _ _ _ h
theorem KpS.call {n0 : Nat} {q : Pt} {KA : Option Addr} {kc : Nat} (h : KpS P n0 p w y q KA kc) (ho : ∀ k, y'.own p k → y.own p k ∨ w.heap.size ≤ k) (u : Upd (y.own p) w w') : KpS P n0 p w' y' q KA kc := by
  have h1 : PtK w (fun k => (n0 ≤ k ∧ ¬ y.own p k ∧ ¬ P k) ∧ k < w.heap.size) q KA kc := PtK.mono (fun k hk r => ⟨r, hk⟩) _ _ _ h
  exact PtK.mono (fun k _ r => ⟨r.1.1, fun s => by rcases ho k s with s | s; exact r.1.2.1 s; exact Nat.lt_irrefl _ (Nat.lt_of_lt_of_le r.2 s), r.1.2.2⟩) _ _ _ (PtK.upd u (fun k _ r => r.1.2.1) _ _ _ h1)
theorem KpS.turn {n0 : Nat} {q : Pt} {KA : Option Addr} {kc : Nat} (h : KpS P n0 p w y q KA kc) (u : Upd S w w') (hS : ∀ k, k < w.heap.size → S k → P k) (hP : ∀ k, P' k → P k ∨ (w.heap.size ≤ k ∧ k < w'.heap.size)) : KpS P' n0 p w' y q KA kc := by
  have h1 : PtK w (fun k => (n0 ≤ k ∧ ¬ y.own p k ∧ ¬ P k) ∧ k < w.heap.size) q KA kc := PtK.mono (fun k hk r => ⟨r, hk⟩) _ _ _ h
  exact PtK.mono (fun k _ r => ⟨r.1.1, r.1.2.1, fun s => by rcases hP k s with s | s; exact r.1.2.2 s; exact Nat.lt_irrefl _ (Nat.lt_of_lt_of_le r.2 s.1)⟩) _ _ _ (PtK.upd u (fun k hk r s => r.1.2.2 (hS k hk s)) _ _ _ h1)
end
end Go.Proofs.Ytblkgjdhaibhgaa

namespace Go.Proofs.Ytblkgjdhaibhgaa
open Go.RowKit

set_option maxRecDepth 100000 in
theorem rItem1_c (s : ByteArray) (w : World) : Calls Try.prog 38 #[.string s] w fun e w' => e = .returned (.bool true) ∧ w' = w := by
  go_enter Try.func38, Try.ntmps38
  go_wp2_with fail
  go_ret
  exact ⟨rfl, rfl⟩
theorem hcfT : ∀ (args : Array Value) (w : World), (callFunc 38 args).run Try.prog w = .ok (.enter 38 args) w := fun args w => by
  simp [callFunc, Try.func38, Try.f38]
def St.clear (x : St) : St := { x with va := none, vc := 0, vs := [], ma := none, mc := 0, ms := [] }
theorem clear_own (x : St) (p k : Nat) : x.clear.own p k ↔ k = p := ⟨fun h => by
  rcases h with h | h | h
  · exact h
  · exact (At.none_ h).elim
  · exact (At.none_ h).elim, fun h => .inl h⟩
section
variable {w : World} {p : Nat} {A : Option Addr} {c : Nat} {L : List Tok} {x : St}
theorem RdS.clear (h : RdS w p A c L x) : RdS ((w.setCell ⟨p, 4, none⟩ (.slice none 0 0)).setCell ⟨p, 5, none⟩ (.slice none 0 0)) p A c L x.clear ∧ Upd (· = p) w ((w.setCell ⟨p, 4, none⟩ (.slice none 0 0)).setCell ⟨p, 5, none⟩ (.slice none 0 0)) := by
  have u : Upd (· = p) w ((w.setCell ⟨p, 4, none⟩ (.slice none 0 0)).setCell ⟨p, 5, none⟩ (.slice none 0 0)) := (updCell w p 4 _).trans (updCell _ p 5 _) (fun _ _ q => q)
  refine ⟨⟨?_, h.tok.upd u (fun k _ hk e => by omega), h.le, Own.none_, Own.none_, fun k q => (At.none_ q).elim, fun k q => (At.none_ q).elim, fun k q => (At.none_ q).elim⟩, u⟩
  have := (h.blk.set_ 4 (.slice none 0 0)).set_ 5 (.slice none 0 0)
  simpa [rcells, St.clear] using this
theorem RdS.setLeft (h : RdS w p A c L x) (b : Bool) : RdS (w.setCell ⟨p, 6, none⟩ (.bool b)) p A c L { x with left := b } := by
  refine h.set (updCell _ _ _ _) ?_ rfl rfl rfl rfl rfl rfl
  have := h.blk.set_ 6 (.bool b)
  simpa [rcells] using this
theorem RdS.setI (h : RdS w p A c L x) (n : Nat) : RdS (w.setCell ⟨p, 1, none⟩ (.int .i64 n)) p A c L { x with i := n } := by
  refine h.set (updCell _ _ _ _) ?_ rfl rfl rfl rfl rfl rfl
  have := h.blk.set_ 1 (.int .i64 n)
  simpa [rcells] using this
/-- Any word. -/
theorem rWordA_c {T : List (Bs × Nat)} {fin : Nat} (hL : LOk L T fin) (h : RdS w p A c L x) (hx : Good T x) {g : Nat} {t : TypeId} {cs : Array Value} (hg : Blk w g t cs) (hpg : p < g) :
    Calls Try.prog 40 #[.pointer (some ⟨p, 0, none⟩), .func (.func 38) #[] #[]] w (WrdP T w p g t (fun _ : Unit => cs) A c L x (fun (_ : Bs) _ => True) (anyF T fin (psOf x))) := by
  refine rWordG_c hL h hx 38 #[] hcfT (fun _ : Unit => cs) () hg hpg (fun s x => some (s, x)) (fun (_ : Bs) _ => True) (fun s ps v y q => ?_) (fun s w1 _ _ _ u01 => ?_)
  · injection q with q; injection q with _ q; subst q; exact ⟨Nat.le_succ _, Nat.le_succ _⟩
  · refine (rItem1_c (kstr s) w1).mono ?_
    rintro e w' ⟨rfl, rfl⟩
    exact ⟨true, (), x, rfl, hg.upd u01 (fun f => f), h.non u01, Keeps.refl, Upd.refl, (fun _ => ⟨s, psOf x, rfl, trivial, rfl, rfl⟩), (fun q => by cases q)⟩
end
end Go.Proofs.Ytblkgjdhaibhgaa

namespace Go.Proofs.Ytblkgjdhaibhgaa
open Go.RowKit

def bindE {α β : Type} (r : Except Er α) (g : α → Except Er β) : Except Er β := match r with | .error e => .error e | .ok v => g v
/-- The error stays. -/
def Kept (x y : St) : Prop := x.why ≠ 0 → y.why = x.why ∧ y.ea = x.ea
theorem Kept.trans {x y z : St} (h : Kept x y) (k : Kept y z) : Kept x z := fun h0 => by
  have h1 := h h0
  have h2 := k (by rw [h1.1]; exact h0)
  exact ⟨h2.1.trans h1.1, h2.2.trans h1.2⟩
theorem kept_exp {L : List Tok} {y : St} {s : Bs} : Kept y (y.exp L s) := fun h => by rw [exp_err h]; exact ⟨rfl, rfl⟩
section
variable {L : List Tok} {T : List (Bs × Nat)} {fin : Nat}
theorem step_bind {α β : Type} {x y z : St} {r : Except Er (α × PS)} {P : α → Prop} {g : α × PS → Except Er (β × PS)} {Q : β → Prop} (h : ResS x y r P) (hne : ∀ e, r = .error e → e.1 ≠ 0) (hk : ∀ v, P v → y.why = 0 → ResS y z (g (v, psOf y)) Q) (he : Kept y z) :
    ResS x z (bindE r g) Q := by
  refine ⟨fun h0 => ?_, fun h0 => ?_⟩
  · have h1 := h.1 h0
    cases r with
    | error e =>
      have hn : y.why ≠ 0 := by rw [h1.1]; exact hne _ rfl
      exact ⟨(he hn).1.trans h1.1, (he hn).2.trans h1.2⟩
    | ok v =>
      obtain ⟨v, s⟩ := v
      obtain ⟨g0, rfl, hP⟩ := h1
      exact (hk v hP g0).1 g0
  · have h1 := h.2 h0
    have hn : y.why ≠ 0 := by rw [h1.1]; exact h0
    exact ⟨(he hn).1.trans h1.1, (he hn).2.trans h1.2⟩
theorem exp_bind {β : Type} {y z : St} {s : Bs} (hL : LOk L T fin) (hy : Good T y) {g : PS → Except Er (β × PS)} {Q : β → Prop} (hk : (y.exp L s).why = 0 → ResS (y.exp L s) z (g (psOf (y.exp L s))) Q) (he : Kept (y.exp L s) z) :
    ResS y z (bindE (expF T fin s (psOf y)) g) Q := by
  refine ⟨fun h0 => ?_, fun h0 => ?_⟩
  · have h1 := exp_res (s := s) hL hy h0
    cases hx : expF T fin s (psOf y) with
    | error e =>
      rw [hx] at h1
      have hn : (y.exp L s).why ≠ 0 := by
        rw [h1.1]
        unfold expF at hx
        split at hx
        · cases hx
        · injection hx with hx; subst hx; show (2 : Int) ≠ 0; decide
      exact ⟨(he hn).1.trans h1.1, (he hn).2.trans h1.2⟩
    | ok u =>
      rw [hx] at h1
      obtain ⟨g0, rfl⟩ := h1
      exact (hk g0).1 g0
  · exact Kept.trans kept_exp he h0
end
section
variable (T : List (Bs × Nat)) (fin : Nat)
def rg7 (s : Bs) (l r : Pt) (cs : List Cd) (x : PS) : Except Er (Rl × PS) := bindE (expF T fin [59] x) fun u => .ok (⟨⟨s.toArray⟩, l, r, cs, u.vs.length, u.ms.length⟩, u)
def rg6 (s : Bs) (l r : Pt) (x : PS) : Except Er (Rl × PS) := bindE (ifF T fin (T.length + 1) x) fun v => rg7 T fin s l r v.1 v.2
def rg5 (s : Bs) (l : Pt) (x : PS) : Except Er (Rl × PS) := bindE (termF T fin false (T.length + 1) x) fun v => rg6 T fin s l v.1 v.2
def rg4 (s : Bs) (l : Pt) (x : PS) : Except Er (Rl × PS) := bindE (expF T fin [61, 62] x) fun u => rg5 T fin s l u
def rg3 (s : Bs) (x : PS) : Except Er (Rl × PS) := bindE (termF T fin true (T.length + 1) x) fun v => rg4 T fin s v.1 v.2
def rg2 (s : Bs) (x : PS) : Except Er (Rl × PS) := bindE (expF T fin [58] x) fun u => rg3 T fin s u
theorem ruleF_eq (x : PS) : ruleF T fin x = bindE (anyF T fin { x with vs := [], ms := [] }) fun v => rg2 T fin v.1 v.2 := by
  unfold ruleF bindE
  cases anyF T fin { x with vs := [], ms := [] } with
  | error e => rfl
  | ok v =>
    obtain ⟨s, x1⟩ := v
    dsimp only
    unfold rg2 bindE
    cases expF T fin [58] x1 with
    | error e => rfl
    | ok x2 =>
      dsimp only
      unfold rg3 bindE
      cases termF T fin true (T.length + 1) x2 with
      | error e => rfl
      | ok v =>
        obtain ⟨l, x3⟩ := v
        dsimp only
        unfold rg4 bindE
        cases expF T fin [61, 62] x3 with
        | error e => rfl
        | ok x4 =>
          dsimp only
          unfold rg5 bindE
          cases termF T fin false (T.length + 1) x4 with
          | error e => rfl
          | ok v =>
            obtain ⟨r, x5⟩ := v
            dsimp only
            unfold rg6 bindE
            cases ifF T fin (T.length + 1) x5 with
            | error e => rfl
            | ok v =>
              obtain ⟨cs, x6⟩ := v
              dsimp only
              unfold rg7 bindE
              cases expF T fin [59] x6 <;> rfl
end
theorem rule_fin {L : List Tok} {T : List (Bs × Nat)} {fin : Nat} (hL : LOk L T fin) {x y1 y3 y5 y6 : St} {s : Bs} {l r : Pt} {cs : List Cd} (hif : ∀ e, ifF T fin (T.length + 1) (psOf y5) = .error e → e.1 ≠ 0)
    (h1 : ResS x y1 (anyF T fin { psOf x with vs := [], ms := [] }) (fun v => v = s)) (g1 : Good T y1)
    (h3 : ResS (y1.exp L [58]) y3 (termF T fin true (T.length + 1) (psOf (y1.exp L [58]))) (fun v => v = l)) (g3 : Good T y3)
    (h5 : ResS (y3.exp L [61, 62]) y5 (termF T fin false (T.length + 1) (psOf (y3.exp L [61, 62]))) (fun v => v = r))
    (h6 : ResS y5 y6 (ifF T fin (T.length + 1) (psOf y5)) (fun v => v = cs)) (g6 : Good T y6) :
    ResS x (y6.exp L [59]) (ruleF T fin (psOf x)) (fun v => v = ⟨⟨s.toArray⟩, l, r, cs, (y6.exp L [59]).vs.length, (y6.exp L [59]).ms.length⟩) := by
  have k6 : Kept y6 (y6.exp L [59]) := kept_exp
  have k5 : Kept y5 (y6.exp L [59]) := Kept.trans h6.2 k6
  have k4 : Kept (y3.exp L [61, 62]) (y6.exp L [59]) := Kept.trans h5.2 k5
  have k3 : Kept y3 (y6.exp L [59]) := Kept.trans kept_exp k4
  have k2 : Kept (y1.exp L [58]) (y6.exp L [59]) := Kept.trans h3.2 k3
  have k1 : Kept y1 (y6.exp L [59]) := Kept.trans kept_exp k2
  rw [ruleF_eq]
  refine step_bind (g := fun v => rg2 T fin v.1 v.2) h1 (fun e => wrdF_err) (fun v hv _ => ?_) k1
  subst hv
  refine exp_bind (g := fun u => rg3 T fin v u) hL g1 (fun _ => ?_) k2
  refine step_bind (g := fun q => rg4 T fin v q.1 q.2) h3 (fun e => termF_err _ _ e) (fun v1 hv _ => ?_) k3
  subst hv
  refine exp_bind (g := fun u => rg5 T fin v v1 u) hL g3 (fun _ => ?_) k4
  refine step_bind (g := fun q => rg6 T fin v v1 q.1 q.2) h5 (fun e => termF_err _ _ e) (fun v2 hv _ => ?_) k5
  subst hv
  refine step_bind (g := fun q => rg7 T fin v v1 v2 q.1 q.2) h6 hif (fun v3 hv _ => ?_) k6
  subst hv
  refine exp_bind (s := [59]) (g := fun u => (.ok ((⟨⟨v.toArray⟩, v1, v2, v3, u.vs.length, u.ms.length⟩ : Rl), u) : Except Er (Rl × PS))) hL g6 (fun h0 => ?_) (fun _ => ⟨rfl, rfl⟩)
  exact ⟨fun _ => ⟨h0, rfl, rfl⟩, fun h => absurd h0 h⟩
end Go.Proofs.Ytblkgjdhaibhgaa

namespace Go.Proofs.Ytblkgjdhaibhgaa
open Go.RowKit

def ccell (c : Cd) : List Value := [.int .i64 c.kind, .int .i64 c.a, .int .i64 c.b, .int .i64 c.n]
def ccells (L : List Cd) : List Value := L.flatMap ccell
theorem ccells_snoc (L : List Cd) (c : Cd) : ccells (L ++ [c]) = ccells L ++ [.int .i64 c.kind, .int .i64 c.a, .int .i64 c.b, .int .i64 c.n] := by simp [ccells, ccell]
theorem ccells_len (L : List Cd) : (ccells L).length = L.length * 4 := by
  induction L with
  | nil => rfl
  | cons c L ih => rw [show ccells (c :: L) = ccell c ++ ccells L from rfl, List.length_append, ih]; simp [ccell]; omega
theorem T_conds : SlT Try.prog 31 66 4 32 := by
  obtain ⟨i, h1, h2, h3, h4⟩ := info_parts (show (Try.prog.info? 66).map (fun i => (i.zero, i.size, i.bytes)) = some (some (.agg #[.int .i64 0, .int .i64 0, .int .i64 0, .int .i64 0]), 4, 32) from by kernel_rfl)
  exact ⟨Try.underlying31, ⟨i, _, h1, h2, h3, h4, rfl⟩, by omega⟩
theorem ccells_get : ∀ (L : List Cd) (i : Nat) (h : i < L.length), (ccells L)[i * 4]? = some (.int .i64 L[i].kind) ∧ (ccells L)[i * 4 + 1]? = some (.int .i64 L[i].a) ∧ (ccells L)[i * 4 + 2]? = some (.int .i64 L[i].b) ∧ (ccells L)[i * 4 + 3]? = some (.int .i64 L[i].n)
  | c :: L, 0, _ => ⟨rfl, rfl, rfl, rfl⟩
  | c :: L, i + 1, h => by
    have := ccells_get L i (by simpa using h)
    rw [show (i + 1) * 4 = i * 4 + 1 + 1 + 1 + 1 by omega]
    exact this
/-- Conditions in a slice of one's own. -/
def CdO (w : World) (A : Option Addr) (c : Nat) (L : List Cd) : Prop := Own w 66 4 A L.length c (ccells L)
section
variable {w w' : World} {A : Option Addr} {c : Nat} {L : List Cd} {S : Nat → Prop}
theorem CdO.none_ : CdO w none 0 [] := Own.none_
theorem CdO.upd (h : CdO w A c L) (u : Upd S w w') (d : ∀ k, At A k → ¬ S k) : CdO w' A c L := Own.upd h u d
theorem CdO.lt (h : CdO w A c L) {k : Nat} (hk : At A k) : k < w.heap.size := Own.lt h hk
theorem CdO.le (h : CdO w A c L) : L.length ≤ c := Own.le h
theorem CdO.view (h : CdO w A c L) : CondsV w (At A) A L := by
  rcases Own.cases h with ⟨_, h0, _, _⟩ | ⟨g, cur, rfl, hb, _, _, _, ht⟩
  · exact .inl (List.eq_nil_of_length_eq_zero h0)
  · refine .inr ⟨g, 0, rfl, At.some_.2 rfl, fun i hi => ?_⟩
    have hcell : ∀ j u, (ccells L)[j]? = some u → w.cell? ⟨g, j, none⟩ = some u := by
      intro j u hj
      rw [hb.cell]
      rw [← ht, List.getElem?_take] at hj
      split at hj
      · simpa using hj
      · cases hj
    obtain ⟨c0, c1, c2, c3⟩ := ccells_get L i hi
    rw [Nat.zero_add]
    exact ⟨hcell _ _ c0, hcell _ _ c1, hcell _ _ c2, hcell _ _ c3⟩
end
theorem CdO.of {w : World} {A : Option Addr} {n c : Nat} {L : List Cd} {cd : Cd} (hn : n = L.length + 1) (h : Own w 66 4 A n c (ccells L ++ [.int .i64 cd.kind, .int .i64 cd.a, .int .i64 cd.b, .int .i64 cd.n])) : CdO w A c (L ++ [cd]) := by
  unfold CdO
  rw [ccells_snoc, List.length_append, List.length_singleton, ← hn]
  exact h
theorem RdS.own_ne' {w : World} {p : Nat} {A A' : Option Addr} {c n c' : Nat} {L : List Tok} {x : St} {cs : List Value} (h : RdS w p A c L x) (o : Own w 66 4 A' n c' cs) : ∀ k, At A' k → ¬ x.own p k := fun k hk q => by
  rcases q with rfl | q | q
  · exact o.ne_blk h.blk (by decide) hk
  · exact o.ne_type h.v (by decide) hk q
  · exact o.ne_type h.m (by decide) hk q
section
variable {T : List (Bs × Nat)} {fin : Nat}
theorem pcondF_err {x : PS} {e : Er} (h : pcondF T fin x = .error e) : e.1 ≠ 0 := by
  unfold pcondF at h
  split at h
  · rename_i e' he; injection h with h; subst h; exact wrdF_err he
  · split at h
    · rename_i e' he; injection h with h; subst h
      split at he
      · exact wrdF_err he
      · exact wrdF_err he
    · split at h
      · cases h
      · split at h
        · split at h
          · rename_i e' he; injection h with h; subst h; exact wrdF_err he
          · cases h
        · split at h
          · split at h
            · rename_i e' he; injection h with h; subst h; exact wrdF_err he
            · cases h
          · split at h
            · rename_i e' he; injection h with h; subst h; exact wrdF_err he
            · cases h
theorem condsF_err : ∀ (f : Nat) (x : PS) {e : Er}, condsF T fin f x = .error e → e.1 ≠ 0
  | 0, x, e, h => by unfold condsF at h; cases h
  | f + 1, x, e, h => by
    unfold condsF at h
    split at h
    · split at h
      · rename_i e' he; injection h with h; subst h; exact pcondF_err he
      · split at h
        · rename_i e' he; injection h with h; subst h; exact condsF_err f _ he
        · cases h
    · cases h
theorem ifF_err {f : Nat} {x : PS} {e : Er} (h : ifF T fin f x = .error e) : e.1 ≠ 0 := by
  unfold ifF at h
  split at h
  · split at h
    · rename_i e' he; injection h with h; subst h; exact pcondF_err he
    · split at h
      · rename_i e' he; injection h with h; subst h; exact condsF_err f _ he
      · cases h
  · cases h
theorem condsF_succ (f : Nat) (x : PS) : condsF T fin (f + 1) x = if tkF T x.i = some [44] then (match pcondF T fin { x with i := x.i + 1 } with
      | .error e => .error e
      | .ok (c, y) => match condsF T fin f y with
        | .error e => .error e
        | .ok (l, z) => .ok (c :: l, z)) else .ok ([], x) := rfl
/-- Conditions cs were read from y5 on; the reader stands at y, f rounds of fuel are left. -/
def CdL (T : List (Bs × Nat)) (fin : Nat) (y5 y : St) (cs : List Cd) (f : Nat) : Prop :=
  (y5.why = 0 → (y.why = 0 → T.length < f + y.i ∧ ifF T fin (T.length + 1) (psOf y5) = match condsF T fin f (psOf y) with
    | .error e => .error e
    | .ok (l, z) => .ok (cs ++ l, z)) ∧ (y.why ≠ 0 → ifF T fin (T.length + 1) (psOf y5) = .error (y.why, y.ea))) ∧ (y5.why ≠ 0 → y.why = y5.why ∧ y.ea = y5.ea)
/-- The first condition, behind the word if. -/
theorem CdL.first {y5 y : St} {cd : Cd} (ht : tkF T y5.i = some [105, 102]) (h0 : y5.why = 0) (h : ResS { y5 with i := y5.i + 1 } y (pcondF T fin { psOf y5 with i := y5.i + 1 }) (fun v => v = cd ∧ y5.i + 1 + 1 ≤ y.i)) : CdL T fin y5 y [cd] (T.length + 1) := by
  have hc := h.1 h0
  refine ⟨fun _ => ⟨fun hy => ?_, fun hy => ?_⟩, fun q => absurd h0 q⟩
  · refine ⟨by omega, ?_⟩
    unfold ifF
    rw [show (psOf y5).i = y5.i from rfl, if_pos ht]
    cases hp : pcondF T fin { psOf y5 with i := y5.i + 1 } with
    | error e => rw [hp] at hc; exact absurd (hc.1 ▸ hy) (pcondF_err hp)
    | ok v =>
      obtain ⟨v, s⟩ := v
      rw [hp] at hc
      obtain ⟨_, rfl, rfl, _⟩ := hc
      rfl
  · unfold ifF
    rw [show (psOf y5).i = y5.i from rfl, if_pos ht]
    cases hp : pcondF T fin { psOf y5 with i := y5.i + 1 } with
    | error e => rw [hp] at hc; dsimp only; rw [hc.1, hc.2]
    | ok v => rw [hp] at hc; exact absurd hc.1 hy
/-- One more, behind a comma. -/
theorem CdL.more {y5 y y' : St} {cs : List Cd} {cd : Cd} {f : Nat} (hl : CdL T fin y5 y cs f) (ht : tkF T y.i = some [44]) (h0 : y.why = 0) (hi : y.i < T.length) (h : ResS { y with i := y.i + 1 } y' (pcondF T fin { psOf y with i := y.i + 1 }) (fun v => v = cd ∧ y.i + 1 + 1 ≤ y'.i)) : 0 < f ∧ CdL T fin y5 y' (cs ++ [cd]) (f - 1) := by
  have hc := h.1 h0
  have h5 : y5.why = 0 := by
    by_cases q : y5.why = 0
    · exact q
    · exact absurd ((hl.2 q).1 ▸ h0) q
  obtain ⟨hf, he⟩ := (hl.1 h5).1 h0
  match f with
  | 0 => omega
  | f + 1 =>
  refine ⟨by omega, fun _ => ?_, fun q => absurd h5 q⟩
  rw [he, condsF_succ]
  rw [show (psOf y).i = y.i from rfl, if_pos ht]
  refine ⟨fun hy => ?_, fun hy => ?_⟩
  · cases hp : pcondF T fin { psOf y with i := y.i + 1 } with
    | error e => rw [hp] at hc; exact absurd (hc.1 ▸ hy) (pcondF_err hp)
    | ok v =>
      obtain ⟨v, s⟩ := v
      rw [hp] at hc
      obtain ⟨_, rfl, rfl, hi2⟩ := hc
      refine ⟨by show T.length < f + 1 - 1 + y'.i; omega, ?_⟩
      dsimp only
      rw [show f + 1 - 1 = f from rfl]
      cases condsF T fin f (psOf y') with
      | error e => rfl
      | ok v => obtain ⟨l, z⟩ := v; simp
  · cases hp : pcondF T fin { psOf y with i := y.i + 1 } with
    | error e => rw [hp] at hc; dsimp only; rw [hc.1, hc.2]
    | ok v => rw [hp] at hc; exact absurd hc.1 hy
/-- No comma: that was all. -/
theorem CdL.done {y5 y : St} {cs : List Cd} {f : Nat} (hl : CdL T fin y5 y cs f) (hD : (y.why == 0 && decide (tkF T y.i = some [44])) = false) : ResS y5 y (ifF T fin (T.length + 1) (psOf y5)) (fun v => v = cs) := by
  refine ⟨fun h5 => ?_, hl.2⟩
  by_cases h0 : y.why = 0
  · have he := ((hl.1 h5).1 h0).2
    have ht : ¬ tkF T y.i = some [44] := by simpa [h0] using hD
    have hc : condsF T fin f (psOf y) = .ok ([], psOf y) := by
      cases f with
      | zero => rfl
      | succ f => rw [condsF_succ, show (psOf y).i = y.i from rfl, if_neg ht]
    rw [hc] at he
    rw [he]
    exact ⟨h0, rfl, by simp⟩
  · rw [(hl.1 h5).2 h0]
    exact ⟨rfl, rfl⟩
/-- No if. -/
theorem ifF_none {y : St} (hD : (y.why == 0 && decide (tkF T y.i = some [105, 102])) = false) : ResS y y (ifF T fin (T.length + 1) (psOf y)) (fun v => v = []) := by
  refine ⟨fun h0 => ?_, fun _ => ⟨rfl, rfl⟩⟩
  have ht : ¬ tkF T y.i = some [105, 102] := by simpa [h0] using hD
  unfold ifF
  rw [show (psOf y).i = y.i from rfl, if_neg ht]
  exact ⟨h0, rfl, rfl⟩
end
end Go.Proofs.Ytblkgjdhaibhgaa
