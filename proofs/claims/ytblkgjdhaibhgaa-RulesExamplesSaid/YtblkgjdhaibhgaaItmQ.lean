/-
  The reader's item: what lies in memory as it reads a rule, and what it hands back. No program in sight but its types.
-/
import Derived.Test.YtblkgjdhaibhgaaItmP
import Derived.Test.YtblkgjdhaibhgaaSet14
import Derived.Test.YtblkgjdhaibhgaaAppP
namespace Go.Proofs.Ytblkgjdhaibhgaa
open Go.RowKit

theorem results_cell_cell_tmp {P : Program} {fn : Func} {p q u : Tmp} {ty ty2 : TypeId} (h : fn.results = #[.cell p ty, .cell q ty2, .tmp u]) (tmps : Array Value) (w : World) (g : Nat) (t : TypeId) (cs : Array Value) (fr : Nat × Nat) (d : TypeDesc) (g2 : Nat) (t2 : TypeId) (cs2 : Array Value) (fr2 : Nat × Nat) (d2 : TypeDesc)
    (hp : tmps.getD p undef = .pointer (some ⟨g, 0, none⟩)) (hg : w.heap[g]? = some (.cells cs t fr))
    (hu : P.underlying ty = some d) (hd : (match d with | .struct _ | .array _ _ => true | _ => false) = true) (hi : (P.info? ty).map (·.size) = some cs.size)
    (hp2 : tmps.getD q undef = .pointer (some ⟨g2, 0, none⟩)) (hg2 : w.heap[g2]? = some (.cells cs2 t2 fr2))
    (hu2 : P.underlying ty2 = some d2) (hd2 : (match d2 with | .struct _ | .array _ _ => true | _ => false) = true) (hi2 : (P.info? ty2).map (·.size) = some cs2.size) :
    (results fn tmps).run P w = .ok (.tuple #[.agg cs, .agg cs2, tmps.getD u undef]) w := by
  have hp' : tmps[p]?.getD undef = .pointer (some ⟨g, 0, none⟩) := by simpa using hp
  have hp2' : tmps[q]?.getD undef = .pointer (some ⟨g2, 0, none⟩) := by simpa using hp2
  simp [results, h, hp', hp2', asAddr, run_loadVar_row w g t ty cs fr d hg hu hd hi, run_loadVar_row w g2 t2 ty2 cs2 fr2 d2 hg2 hu2 hd2 hi2, Result.andThen]

/-- The left side stored. -/
def setLf (w : World) (g : Nat) (a b c d e : Value) : World := ((((w.setCell ⟨g, 1, none⟩ a).setCell ⟨g, 2, none⟩ b).setCell ⟨g, 3, none⟩ c).setCell ⟨g, 4, none⟩ d).setCell ⟨g, 5, none⟩ e
theorem setLf_blk {w : World} {g : Nat} {t : TypeId} {x0 x1 x2 x3 x4 x5 x6 x7 x8 x9 x10 x11 x12 x13 : Value} (h : Blk w g t #[x0, x1, x2, x3, x4, x5, x6, x7, x8, x9, x10, x11, x12, x13]) (a b c d e : Value) : Blk (setLf w g a b c d e) g t #[x0, a, b, c, d, e, x6, x7, x8, x9, x10, x11, x12, x13] := by
  unfold setLf
  simpa using ((((h.set_ 1 a).set_ 2 b).set_ 3 c).set_ 4 d).set_ 5 e
theorem setLf_upd (w : World) (g : Nat) (a b c d e : Value) : Upd (· = g) w (setLf w g a b c d e) := by
  have s : ∀ (w : World) (i : Nat) (v : Value), Upd (· = g) w (w.setCell ⟨g, i, none⟩ v) := fun w i v => updCell _ _ _ _
  have t : ∀ {a b c : World}, Upd (· = g) a b → Upd (· = g) b c → Upd (· = g) a c := fun h k => h.trans k (fun _ _ h => h)
  exact t (t (t (t (s _ _ _) (s _ _ _)) (s _ _ _)) (s _ _ _)) (s _ _ _)
theorem setLf_eq (w : World) (g : Nat) (a b c d e : Value) : ((((w.setCell ⟨g, 1, none⟩ a).setCell ⟨g, 2, none⟩ b).setCell ⟨g, 3, none⟩ c).setCell ⟨g, 4, none⟩ d).setCell ⟨g, 5, none⟩ e = setLf w g a b c d e := rfl
theorem exp_left_set (y : St) (L : List Tok) (s : Bs) (b : Bool) : ({ y with left := b } : St).exp L s = { (y.exp L s) with left := b } := by
  unfold St.exp
  cases (y.why == 0 && isT L y.i s) with
  | true => rfl
  | false =>
    show ({ y with left := b } : St).fail 2 (posT L y.i) = { (y.fail 2 (posT L y.i)) with left := b }
    unfold St.fail
    by_cases h : y.why = 0
    · rw [if_pos h, if_pos h]
    · rw [if_neg h, if_neg h]
def AxP (ax : Bs → Option Rl) (s : Bs) (w : World) (e : Ending) (w' : World) : Prop :=
  ∃ (rl : Rl) (a : RlA) (b : Bool), e = .returned (.tuple #[rlv rl a, .bool b]) ∧ RlK w' (fun k => w.heap.size ≤ k) rl a ∧ Upd Non w w' ∧ (b = true → ax s = some rl) ∧ (b = false → ax s = none)
def ItemP (T : List (Bs × Nat)) (w : World) (p : Nat) (A : Option Addr) (c : Nat) (L : List Tok) (x : St) (r : Except Er ((Option Rl × Nat) × PS)) (e : Ending) (w' : World) : Prop :=
  ∃ (rl : Rl) (a : RlA) (ts : Bs) (tp : Nat) (b : Bool) (y : St), e = .returned (.tuple #[rlv rl a, tokVal ts tp, .bool b]) ∧ RlK w' (fun k => w.heap.size ≤ k ∧ ¬ y.own p k) rl a ∧ RdS w' p A c L y ∧ Good T y ∧ (∀ k, y.own p k → x.own p k ∨ w.heap.size ≤ k) ∧ Upd (x.own p) w w' ∧ ResS x y r (fun v => v.2 = tp ∧ (b = true → v.1 = some rl) ∧ (b = false → v.1 = none))

theorem ResS.mono {α : Type} {x y : St} {r : Except Er (α × PS)} {P Q : α → Prop} (h : ResS x y r P) (k : ∀ v, P v → Q v) : ResS x y r Q := by
  refine ⟨fun h0 => ?_, h.2⟩
  have h1 := h.1 h0
  cases r with
  | error e => exact h1
  | ok v => exact ⟨h1.1, h1.2.1, k _ h1.2.2⟩
theorem tkF_lt {T : List (Bs × Nat)} {i : Nat} {s : Bs} (h : tkF T i = some s) : i < T.length := by
  rcases Nat.lt_or_ge i T.length with q | q
  · exact q
  · unfold tkF at h; rw [List.getElem?_eq_none q] at h; cases h
section
variable {L : List Tok} {T : List (Bs × Nat)} {fin : Nat}
theorem rt_cells {w : World} {g1 g2 : Nat} {s : Bs} {tp : Nat} {R : Rl} {a : RlA} (h2 : Blk w g2 33 (rlCells R a)) (h1 : Blk w g1 60 #[.string (kstr s), .int .i64 tp, .bool false]) :
    w.cell? ⟨g2, 0, none⟩ = some (.string R.name) ∧ w.cell? ⟨g2, 1, none⟩ = some (.int .i64 R.l.v) ∧ w.cell? ⟨g2, 2, none⟩ = some (.int .i64 R.l.op) ∧ w.cell? ⟨g2, 3, none⟩ = some (.int .i64 R.l.imm) ∧ w.cell? ⟨g2, 4, none⟩ = some (.int .i64 R.l.iv) ∧ w.cell? ⟨g2, 5, none⟩ = some (.slice a.la R.l.kids.length a.lc) ∧ w.cell? ⟨g2, 6, none⟩ = some (.int .i64 R.r.v) ∧ w.cell? ⟨g2, 7, none⟩ = some (.int .i64 R.r.op) ∧ w.cell? ⟨g2, 8, none⟩ = some (.int .i64 R.r.imm) ∧ w.cell? ⟨g2, 9, none⟩ = some (.int .i64 R.r.iv) ∧ w.cell? ⟨g2, 10, none⟩ = some (.slice a.ra R.r.kids.length a.rc) ∧ w.cell? ⟨g2, 11, none⟩ = some (.slice a.ca R.conds.length a.cc) ∧ w.cell? ⟨g2, 12, none⟩ = some (.int .i64 R.vars) ∧ w.cell? ⟨g2, 13, none⟩ = some (.int .i64 R.imms) ∧ w.cell? ⟨g1, 0, none⟩ = some (.string (kstr s)) ∧ w.cell? ⟨g1, 1, none⟩ = some (.int .i64 (tp : Nat)) ∧ w.cell? ⟨g1, 2, none⟩ = some (.bool false) := by
  unfold rlCells at h2
  exact ⟨h2.cell 0, h2.cell 1, h2.cell 2, h2.cell 3, h2.cell 4, h2.cell 5, h2.cell 6, h2.cell 7, h2.cell 8, h2.cell 9, h2.cell 10, h2.cell 11, h2.cell 12, h2.cell 13, h1.cell 0, h1.cell 1, h1.cell 2⟩
/-- Any word: the word is the token's. -/
theorem any_res {x y : St} {ts : Bs} {P : Bs → Prop} (h : ResS x y (anyF T fin (psOf x)) P) (ht : y.why = 0 → tkF T x.i = some ts) : ResS x y (anyF T fin (psOf x)) (fun v => v = ts) := by
  refine ⟨fun h0 => ?_, h.2⟩
  have h1 := h.1 h0
  cases ha : anyF T fin (psOf x) with
  | error e => rw [ha] at h1; exact h1
  | ok v =>
    obtain ⟨v, s⟩ := v
    rw [ha] at h1
    refine ⟨h1.1, h1.2.1, ?_⟩
    have h2 := ht h1.1
    unfold anyF wrdF at ha
    rw [show (psOf x).i = x.i from rfl, h2] at ha
    dsimp only at ha
    split at ha
    · cases ha
    · injection ha with ha; injection ha with ha _; exact ha.symm
theorem item_ax {ax : Bs → Option Rl} (hL : LOk L T fin) {x y1 : St} {rl : Rl} {b : Bool} {ts : Bs} {tp : Nat} (h0 : x.why = 0) (ht : tkF T x.i = some [97, 120, 105, 111, 109]) (h1 : ResS { x with i := x.i + 1 } y1 (anyF T fin (psOf { x with i := x.i + 1 })) (fun v => v = ts)) (g1 : Good T y1) (hp : y1.why = 0 → tp = offF T fin (x.i + 1)) (hb : (b = true → ax ts = some rl) ∧ (b = false → ax ts = none)) :
    ResS x (y1.exp L [59]) (itemF T fin ax (psOf x)) (fun v => v.2 = tp ∧ (b = true → v.1 = some rl) ∧ (b = false → v.1 = none)) := by
  refine ⟨fun _ => ?_, fun q => absurd h0 q⟩
  unfold itemF
  rw [show (psOf x).i = x.i from rfl, if_pos ht]
  have h2 := h1.1 h0
  rw [show psOf { x with i := x.i + 1 } = { psOf x with i := x.i + 1 } from rfl] at h2
  cases ha : anyF T fin { psOf x with i := x.i + 1 } with
  | error e =>
    rw [ha] at h2
    have hn : y1.why ≠ 0 := by rw [h2.1]; exact wrdF_err ha
    dsimp only
    rw [exp_err hn]
    exact h2
  | ok v =>
    obtain ⟨s, y⟩ := v
    rw [ha] at h2
    obtain ⟨k0, rfl, rfl⟩ := h2
    dsimp only
    have e := exp_res (s := [59]) hL g1 k0
    cases he : expF T fin [59] (psOf y1) with
    | error er => rw [he] at e; exact e
    | ok u => rw [he] at e; exact ⟨e.1, e.2, (hp k0).symm, hb.1, hb.2⟩
theorem item_ru {ax : Bs → Option Rl} (hL : LOk L T fin) {x y1 yE : St} {rl : Rl} {ts : Bs} {tp : Nat} (hx : Good T x) (hz : (x.why == 0 && decide (tkF T x.i = some [97, 120, 105, 111, 109])) = false)
    (h1 : ResS (x.exp L [114, 117, 108, 101]) y1 (anyF T fin { psOf (x.exp L [114, 117, 108, 101]) with vs := [], ms := [] }) (fun v => v = ts)) (hp : y1.why = 0 → tp = offF T fin (x.exp L [114, 117, 108, 101]).i)
    (h : ResS (x.exp L [114, 117, 108, 101]) yE (ruleF T fin (psOf (x.exp L [114, 117, 108, 101]))) (fun v => v = rl)) :
    ResS x yE (itemF T fin ax (psOf x)) (fun v => v.2 = tp ∧ (true = true → v.1 = some rl) ∧ (true = false → v.1 = none)) := by
  refine ⟨fun h0 => ?_, fun h0 => ?_⟩
  · have ht : ¬ tkF T x.i = some [97, 120, 105, 111, 109] := by simpa [h0] using hz
    unfold itemF
    rw [show (psOf x).i = x.i from rfl, if_neg ht]
    have e := exp_res (s := [114, 117, 108, 101]) hL hx h0
    cases he : expF T fin [114, 117, 108, 101] (psOf x) with
    | error er =>
      rw [he] at e
      have hn : (x.exp L [114, 117, 108, 101]).why ≠ 0 := by rw [e.1]; exact expF_err he
      exact ⟨(h.2 hn).1.trans e.1, (h.2 hn).2.trans e.2⟩
    | ok u =>
      rw [he] at e
      obtain ⟨g0, rfl⟩ := e
      have h2 := h.1 g0
      have h3 := h1.1 g0
      dsimp only
      cases hr : ruleF T fin (psOf (x.exp L [114, 117, 108, 101])) with
      | error er => rw [hr] at h2; exact h2
      | ok v =>
        obtain ⟨r, z⟩ := v
        rw [hr] at h2
        refine ⟨h2.1, h2.2.1, ?_, fun _ => congrArg some h2.2.2, fun q => by cases q⟩
        rw [ruleF_eq] at hr
        unfold bindE at hr
        cases ha : anyF T fin { psOf (x.exp L [114, 117, 108, 101]) with vs := [], ms := [] } with
        | error er => rw [ha] at hr; cases hr
        | ok v => rw [ha] at h3; exact (hp h3.1).symm
  · rw [exp_err h0] at h
    exact h.2 h0
end
section
variable {P P' S : Nat → Prop} {w0 w w' : World} {p : Nat} {A : Option Addr} {c : Nat} {L : List Tok} {x y y' : St}
theorem LocP.callP (h : LocP P w0 w p A c L x y) (hr : RdS w' p A c L y') (ho : ∀ k, y'.own p k → y.own p k ∨ w.heap.size ≤ k) (u : Upd (fun k => y.own p k ∨ P k) w w') : LocP P w0 w' p A c L x y' := by
  have hl := h.le
  refine ⟨hr, fun k q => ?_, fun k q => ?_, h.xlt, h.upd.trans u (fun k hk q => ?_)⟩
  · rcases ho k q with r | r
    · exact h.own k r
    · exact .inr (by omega)
  · obtain ⟨h1, h2, h3⟩ := h.pr k q
    refine ⟨h1, Nat.lt_of_lt_of_le h2 u.size, fun r => ?_⟩
    rcases ho k r with r | r
    · exact h3 r
    · omega
  · rcases q with q | q
    · rcases h.own k q with r | r
      · exact r
      · omega
    · have := (h.pr k q).1; omega
/-- The two results' blocks. -/
def P2 (n0 k : Nat) : Prop := k = n0 ∨ k = n0 + 1
def z14 : Array Value := #[.string ⟨#[]⟩, .int .i64 0, .int .i64 0, .int .i64 0, .int .i64 0, .slice none 0 0, .int .i64 0, .int .i64 0, .int .i64 0, .int .i64 0, .slice none 0 0, .slice none 0 0, .int .i64 0, .int .i64 0]
def z3 : Array Value := #[.string ⟨#[]⟩, .int .i64 0, .bool false]
/-- The call's own blocks: the results, the name's token, the rule, its conditions. -/
def P5 (n0 g1 g2 : Nat) (CA : Option Addr) (k : Nat) : Prop := k = n0 ∨ k = n0 + 1 ∨ k = g1 ∨ k = g2 ∨ At CA k
structure ItS (w0 w : World) (p : Nat) (A : Option Addr) (c : Nat) (L : List Tok) (x y : St) (g1 g2 : Nat) (ts : Bs) (tp : Nat) (R : Rl) (a : RlA) : Prop where
  loc : LocP (P5 w0.heap.size g1 g2 a.ca) w0 w p A c L x y
  res : Blk w w0.heap.size 33 z14
  tkr : Blk w (w0.heap.size + 1) 60 z3
  tk : Blk w g1 60 #[.string (kstr ts), .int .i64 tp, .bool false]
  rl : Blk w g2 33 (rlCells R a)
  cds : CdO w a.ca a.cc R.conds
  o1 : w0.heap.size + 1 < g1
  o2 : g1 < g2
  kl : KpS (P5 w0.heap.size g1 g2 a.ca) w0.heap.size p w y R.l a.la a.lc
  kr : KpS (P5 w0.heap.size g1 g2 a.ca) w0.heap.size p w y R.r a.ra a.rc
section
variable {g1 g2 : Nat} {ts : Bs} {tp : Nat} {R R' : Rl} {a a' : RlA}
theorem ItS.ncd (h : ItS w0 w p A c L x y g1 g2 ts tp R a) : ¬ At a.ca w0.heap.size ∧ ¬ At a.ca (w0.heap.size + 1) ∧ ¬ At a.ca g1 ∧ ¬ At a.ca g2 :=
  ⟨Own.ne_blk h.cds h.res (by decide), Own.ne_blk h.cds h.tkr (by decide), Own.ne_blk h.cds h.tk (by decide), Own.ne_blk h.cds h.rl (by decide)⟩
theorem ItS.pw (h : ItS w0 w p A c L x y g1 g2 ts tp R a) : p < w0.heap.size := h.loc.xlt p (.inl rfl)
theorem ItS.gw (h : ItS w0 w p A c L x y g1 g2 ts tp R a) : g2 < w.heap.size := h.rl.lt
theorem ItS.leaf {S : Nat → Prop} {n0 : Nat} : KpS S n0 p w y (.mk 0 0 0 0 []) none 0 := PtK.leaf
/-- What a term hands back outlives what follows. -/
theorem ItS.new (h : ItS w0 w p A c L x y g1 g2 ts tp R a) {q : Pt} {KA : Option Addr} {kc : Nat} (hq : PtK w' (fun k => w.heap.size ≤ k ∧ ¬ y'.own p k) q KA kc) : KpS (P5 w0.heap.size g1 g2 a.ca) w0.heap.size p w' y' q KA kc := KpS.new hq (fun k r => (h.loc.pr k r).2.1) h.loc.le
/-- A step of the reader. -/
theorem ItS.call (h : ItS w0 w p A c L x y g1 g2 ts tp R a) (hr : RdS w' p A c L y') (ho : ∀ k, y'.own p k → y.own p k ∨ w.heap.size ≤ k) (u : Upd (y.own p) w w') : ItS w0 w' p A c L x y' g1 g2 ts tp R a :=
  ⟨h.loc.call hr ho u, h.loc.keep u (.inl rfl) h.res, h.loc.keep u (.inr (.inl rfl)) h.tkr, h.loc.keep u (.inr (.inr (.inl rfl))) h.tk, h.loc.keep u (.inr (.inr (.inr (.inl rfl)))) h.rl, h.cds.upd u (fun k q => (h.loc.pr k (.inr (.inr (.inr (.inr q))))).2.2), h.o1, h.o2, h.kl.call ho u, h.kr.call ho u⟩
theorem ItS.exp (h : ItS w0 w p A c L x y g1 g2 ts tp R a) {s : Bs} (hr : RdS w' p A c L (y.exp L s)) (u : Upd (· = p) w w') : ItS w0 w' p A c L x (y.exp L s) g1 g2 ts tp R a :=
  h.call hr (fun _ hk => .inl ((exp_own _ _).1 hk)) (u.mono (fun _ _ e => .inl e))
theorem ItS.non (h : ItS w0 w p A c L x y g1 g2 ts tp R a) (u : Upd Non w w') : ItS w0 w' p A c L x y g1 g2 ts tp R a :=
  h.call (h.loc.rd.non u) (fun _ q => .inl q) (u.mono (fun _ _ f => f.elim))
theorem ItS.setI (h : ItS w0 w p A c L x y g1 g2 ts tp R a) (n : Nat) : ItS w0 (w.setCell ⟨p, 1, none⟩ (.int .i64 n)) p A c L x { y with i := n } g1 g2 ts tp R a :=
  h.call (h.loc.rd.setI n) (fun _ q => .inl q) ((updCell _ _ _ _).mono (fun _ _ e => .inl e))
theorem ItS.setLeft (h : ItS w0 w p A c L x y g1 g2 ts tp R a) (b : Bool) : ItS w0 (w.setCell ⟨p, 6, none⟩ (.bool b)) p A c L x { y with left := b } g1 g2 ts tp R a :=
  h.call (h.loc.rd.setLeft b) (fun _ q => .inl q) ((updCell _ _ _ _).mono (fun _ _ e => .inl e))
/-- The rule's own cells. -/
theorem ItS.rule (h : ItS w0 w p A c L x y g1 g2 ts tp R a) (u : Upd (· = g2) w w') (hb : Blk w' g2 33 (rlCells R' a')) (e1 : a'.ca = a.ca) (e2 : a'.cc = a.cc) (e3 : R'.conds = R.conds) (kl : KpS (P5 w0.heap.size g1 g2 a.ca) w0.heap.size p w y R'.l a'.la a'.lc) (kr : KpS (P5 w0.heap.size g1 g2 a.ca) w0.heap.size p w y R'.r a'.ra a'.rc) : ItS w0 w' p A c L x y g1 g2 ts tp R' a' := by
  have hc := h.ncd
  have o1 := h.o1
  have o2 := h.o2
  refine ⟨?_, h.res.upd u (by omega), h.tkr.upd u (by omega), h.tk.upd u (by omega), hb, ?_, o1, o2, ?_, ?_⟩
  · rw [e1]; exact h.loc.turn u (fun _ _ e => .inr (.inr (.inr (.inl e)))) (fun _ q => .inl q)
  · rw [e1, e2, e3]; exact h.cds.upd u (fun k hk e => hc.2.2.2 (e ▸ hk))
  · rw [e1]; exact kl.turn u (fun _ _ e => .inr (.inr (.inr (.inl e)))) (fun _ q => .inl q)
  · rw [e1]; exact kr.turn u (fun _ _ e => .inr (.inr (.inr (.inl e)))) (fun _ q => .inl q)
/-- What is left as the results are written. -/
theorem ItS.fin (h : ItS w0 w p A c L x y g1 g2 ts tp R a) (u : Upd (P2 w0.heap.size) w w') : LocP (P5 w0.heap.size g1 g2 a.ca) w0 w' p A c L x y ∧ RlK w' (fun k => w0.heap.size ≤ k ∧ ¬ y.own p k) R a ∧ Blk w' g1 60 #[.string (kstr ts), .int .i64 tp, .bool false] ∧ Blk w' g2 33 (rlCells R a) := by
  have hn := h.ncd
  have o1 := h.o1
  have o2 := h.o2
  have hS : ∀ k, k < w.heap.size → P2 w0.heap.size k → P5 w0.heap.size g1 g2 a.ca k := fun k _ q => q.imp_right .inl
  have hl := h.loc.turn (P' := P5 w0.heap.size g1 g2 a.ca) u hS (fun _ q => .inl q)
  refine ⟨hl, ⟨?_, ?_, ?_, ?_⟩, h.tk.upd u (fun q => ?_), h.rl.upd u (fun q => ?_)⟩
  · exact PtK.mono (fun _ _ q => ⟨q.1, q.2.1⟩) _ _ _ (h.kl.turn (P' := P5 w0.heap.size g1 g2 a.ca) u hS (fun _ q => .inl q))
  · exact PtK.mono (fun _ _ q => ⟨q.1, q.2.1⟩) _ _ _ (h.kr.turn (P' := P5 w0.heap.size g1 g2 a.ca) u hS (fun _ q => .inl q))
  · have hc : CdO w' a.ca a.cc R.conds := h.cds.upd u (fun k hk q => by
      rcases q with q | q
      · exact hn.1 (q ▸ hk)
      · exact hn.2.1 (q ▸ hk))
    exact hc.view.mono (fun k _ q => ⟨(hl.pr k (.inr (.inr (.inr (.inr q))))).1, (hl.pr k (.inr (.inr (.inr (.inr q))))).2.2⟩)
  · exact CdO.le h.cds
  · rcases q with q | q <;> omega
  · rcases q with q | q <;> omega
/-- One condition more; the rule does not know it yet: its cells still tell of the old list. -/
theorem ItS.app (h : ItS w0 w p A c L x y g1 g2 ts tp R a) {CA : Option Addr} {cc : Nat} {cd : Cd} (u : Upd (At a.ca) w w') (hc : CdO w' CA cc (R.conds ++ [cd])) (hat : ∀ k, At CA k → At a.ca k ∨ k = w.heap.size) {w'' : World} (u2 : Upd (· = g2) w' w'') (hb : Blk w'' g2 33 (rlCells { R with conds := R.conds ++ [cd] } { a with ca := CA, cc := cc })) : ItS w0 w'' p A c L x y g1 g2 ts tp { R with conds := R.conds ++ [cd] } { a with ca := CA, cc := cc } := by
  have hn := h.ncd
  have o1 := h.o1
  have o2 := h.o2
  have hg : g2 < w.heap.size := h.rl.lt
  have uu : Upd (fun k => At a.ca k ∨ k = g2) w w'' := (u.mono (fun _ _ q => .inl q)).trans (u2.mono (fun _ _ q => .inr q)) (fun _ _ q => q)
  have hS : ∀ k, k < w.heap.size → (At a.ca k ∨ k = g2) → P5 w0.heap.size g1 g2 a.ca k := fun k _ e => by
    rcases e with e | e
    · exact .inr (.inr (.inr (.inr e)))
    · exact .inr (.inr (.inr (.inl e)))
  have hP : ∀ k, P5 w0.heap.size g1 g2 CA k → P5 w0.heap.size g1 g2 a.ca k ∨ (w.heap.size ≤ k ∧ k < w''.heap.size) := fun k q => by
    rcases q with q | q | q | q | q
    · exact .inl (.inl q)
    · exact .inl (.inr (.inl q))
    · exact .inl (.inr (.inr (.inl q)))
    · exact .inl (.inr (.inr (.inr (.inl q))))
    · rcases hat k q with r | r
      · exact .inl (.inr (.inr (.inr (.inr r))))
      · have hk := hc.lt q
        have := u2.size
        exact .inr ⟨by omega, by omega⟩
  refine ⟨h.loc.turn uu hS hP, h.res.upd uu (fun q => ?_), h.tkr.upd uu (fun q => ?_), h.tk.upd uu (fun q => ?_), hb, ?_, o1, o2, h.kl.turn uu hS hP, h.kr.turn uu hS hP⟩
  · rcases q with q | q
    · exact hn.1 q
    · omega
  · rcases q with q | q
    · exact hn.2.1 q
    · omega
  · rcases q with q | q
    · exact hn.2.2.1 q
    · omega
  · refine CdO.upd hc u2 (fun k hk e => ?_)
    subst e
    rcases hat _ hk with r | r
    · exact hn.2.2.2 r
    · omega
end
end
end Go.Proofs.Ytblkgjdhaibhgaa
