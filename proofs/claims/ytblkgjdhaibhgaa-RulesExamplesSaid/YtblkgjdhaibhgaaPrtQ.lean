/-
  Valid rules can be printed.
  A string's bytes appended to bytes of one's own.
-/
import Derived.Test.YtblkgjdhaibhgaaPrtE
import Derived.Test.YtblkgjdhaibhgaaParP
import Derived.Lib.AppendStr
namespace Go.Proofs.Ytblkgjdhaibhgaa
open Go.RowKit

/-- The numbers in a pattern, in a rule are words. -/
def PI (p : Pt) : Prop := ∀ q ∈ nodes p, I64 q.imm
structure RlI (R : Rl) : Prop where
  l : PI R.l
  r : PI R.r
  c : ∀ x ∈ R.conds, I64 x.n
theorem nodes_self (p : Pt) : p ∈ nodes p := by cases p; simp [nodes]
theorem nodesL_mem {q k : Pt} : ∀ {ks : List Pt}, k ∈ ks → q ∈ nodes k → q ∈ nodesL ks
  | x :: ks, hk, hq => by
    simp only [nodesL, List.mem_append]
    rcases List.mem_cons.1 hk with rfl | hk
    · exact .inl hq
    · exact .inr (nodesL_mem hk hq)
theorem PI.kid {p k : Pt} (h : PI p) (hk : k ∈ p.kids) : PI k := fun q hq => h q (by
  cases p
  simp only [nodes, List.mem_cons]
  exact .inr (nodesL_mem hk hq))
theorem oS_ops {op : Int} (h : (oSortsF op).2.2 = true) : op = 1 ∨ (4 ≤ op ∧ op < 32) := by
  rw [← allowed_ok] at h
  simp only [allowedF, decide_eq_true_iff] at h
  omega
theorem shp_fm (p : Pt) : ∀ (s m : Int) (n : Nat), shp p s m n = true → m ≤ 6 → n ≤ 6 → PI p → FmOk p := by
  induction p using Pt.ind with
  | h p ih =>
    intro s m n hs hm hn hi
    by_cases hv : p.v = 0
    · rw [shp_op hv, Bool.and_eq_true, decide_eq_true_iff] at hs
      obtain ⟨⟨h1, h2, _, h4⟩, h5⟩ := hs
      have hI := hi p (nodes_self p)
      have hiv : p.iv ≤ 100 := by
        unfold pImmF at h4
        split at h4
        · simp only [Bool.and_eq_true, decide_eq_true_iff] at h4; omega
        · omega
      have hks : ∀ k ∈ p.kids, FmOk k := fun k hk => by
        obtain ⟨i, hi2, rfl⟩ := List.mem_iff_getElem.1 hk
        exact ih _ hk _ m n (shpL_at hi2 h5) hm hn (hi.kid hk)
      cases p with
      | mk v op imm iv ks =>
        dsimp only [Pt.v, Pt.op, Pt.imm, Pt.iv, Pt.kids] at *
        rcases oS_ops h1 with rfl | ⟨a, b⟩
        · exact .cst (by omega) hI.1 hI.2 hiv
        · exact .app (by omega) a b hI.1 hI.2 hiv hks
    · rw [shp_var hv, decide_eq_true_iff] at hs
      cases p with
      | mk v op imm iv ks =>
        dsimp only [Pt.v, Pt.op, Pt.imm, Pt.iv, Pt.kids] at *
        exact .var (by omega) (by omega)
theorem cond_fm {c : Cd} {ss : List Int} {m : Int} (h : condF c ss m = true) (hs : ss.length ≤ 7) (hm : m ≤ 6) (hn : I64 c.n) : CdFm c := by
  unfold condF at h
  split at h
  · simp only [isValF, Bool.and_eq_true, decide_eq_true_iff] at h; exact ⟨by omega, by omega, by omega, by omega, by omega, by omega, hn.1, hn.2⟩
  · split at h
    · simp only [isValF, Bool.and_eq_true, decide_eq_true_iff] at h; exact ⟨by omega, by omega, by omega, by omega, by omega, by omega, hn.1, hn.2⟩
    · split at h
      · simp only [isValF, Bool.and_eq_true, decide_eq_true_iff] at h; exact ⟨by omega, by omega, by omega, by omega, by omega, by omega, hn.1, hn.2⟩
      · split at h
        · simp only [isValF, isImmF, Bool.and_eq_true, decide_eq_true_iff] at h; exact ⟨by omega, by omega, by omega, by omega, by omega, by omega, hn.1, hn.2⟩
        · split at h
          · simp only [isImmF, Bool.and_eq_true, decide_eq_true_iff] at h; exact ⟨by omega, by omega, by omega, by omega, by omega, by omega, hn.1, hn.2⟩
          · cases h
structure FmR (R : Rl) : Prop where
  l : FmOk R.l
  r : FmOk R.r
  c : ∀ x ∈ R.conds, CdFm x
  few : R.conds.length ≤ 6
  ls : R.l.size ≤ 24
  rs : R.r.size ≤ 24
  n : R.name.size ≤ 16
theorem impl_fm {r : Rl} (h : implF r = true) (hi : RlI r) : FmR r := by
  have k := imp_ok h
  have hv := k.vars
  refine ⟨shp_fm _ _ _ _ k.shl k.imms.2 (by omega) hi.l, shp_fm _ _ _ _ k.shr k.imms.2 (by omega) hi.r, fun x hx => cond_fm (k.cnd x hx) (by simp; omega) k.imms.2 (hi.c x hx), k.few, k.sizes.1, k.sizes.2, ?_⟩
  have := k.name
  simp only [nameF, Bool.and_eq_true, decide_eq_true_iff] at this
  exact this.2.2
theorem fmtCs_len : ∀ {cs : List Cd} {b : Bool}, (∀ x ∈ cs, CdFm x) → (fmtCs cs b).length ≤ 44 * cs.length
  | [], b, _ => by simp [fmtCs]
  | c :: cs, b, h => by
    have e1 := fmtC_len (h c List.mem_cons_self)
    have e2 := fmtCs_len (cs := cs) (b := false) (fun x hx => h x (List.mem_cons_of_mem _ hx))
    simp only [fmtCs, List.length_append, List.length_cons]
    have : (if b = true then [32, 105, 102, 32] else ([44, 32] : Bs)).length ≤ 4 := by split <;> simp
    omega
theorem fmtCs_snoc (c : Cd) : ∀ (cs : List Cd) (b : Bool), fmtCs (cs ++ [c]) b = fmtCs cs b ++ ((if b && cs.isEmpty then [32, 105, 102, 32] else [44, 32]) ++ fmtC c)
  | [], b => by simp [fmtCs]
  | x :: cs, b => by simp [fmtCs, fmtCs_snoc c cs]
theorem fmtR_len {r : Rl} (h : FmR r) : (fmtR r).length ≤ 2000 := by
  have e1 := fmtF_len _ h.l
  have e2 := fmtF_len _ h.r
  have e3 := fmtCs_len (b := true) h.c
  have e4 := h.few
  have e5 := h.ls
  have e6 := h.rs
  have e7 : (kx r.name).length ≤ 16 := by rw [kx_len]; exact h.n
  unfold fmtR
  simp only [List.length_append, List.length_cons, List.length_nil]
  omega
theorem fmtRs_snoc (r : Rl) : ∀ L : List Rl, fmtRs (L ++ [r]) = fmtRs L ++ fmtR r
  | [] => by simp [fmtRs]
  | x :: L => by simp [fmtRs, fmtRs_snoc r L]
theorem fmtRs_len : ∀ {L : List Rl}, (∀ r ∈ L, FmR r) → (fmtRs L).length ≤ 2000 * L.length
  | [], _ => by simp [fmtRs]
  | r :: L, h => by
    have e1 := fmtR_len (h r List.mem_cons_self)
    have e2 := fmtRs_len (L := L) (fun x hx => h x (List.mem_cons_of_mem _ hx))
    simp only [fmtRs, List.length_append, List.length_cons]
    omega
end Go.Proofs.Ytblkgjdhaibhgaa

namespace Go.Proofs.Ytblkgjdhaibhgaa
open Go.RowKit

theorem strCells_u8 (s : ByteArray) : Lib.strCells s = u8s (kx s) := rfl
theorem run_apps {w : World} {A : Option Addr} {n c : Nat} {bs : Bs} (h : Own w 5 1 A n c (u8s bs)) {b0 : Nat} (hA : ∀ k, At A k → b0 ≤ k) (hb0 : b0 ≤ w.heap.size) (s : ByteArray) (hs : n + s.size ≤ 100000000000000) (ty : TypeId) :
    ∃ A' c' w', (Builtin.append_ #[48, 9] ty #[.slice A n c, .string s]).run Try.prog w = .ok (.slice A' (n + s.size) c') w' ∧ Own w' 5 1 A' (n + s.size) c' (u8s (bs ++ kx s)) ∧ Upd (At A) w w' ∧ (∀ k, At A' k → b0 ≤ k) := by
  obtain ⟨i, h1, h2, h3, h4⟩ := info_parts (show (Try.prog.info? 5).map (fun i => (i.zero, i.size, i.bytes)) = some (some (.int .u8 0), 1, 1) from by kernel_rfl)
  have hown : w.ownsRow b0 5 1 (.slice A n c) n (u8s bs) := by
    refine ⟨h.1, ?_⟩
    rcases h.2 with q | ⟨g, cap, cur, hv, _, r⟩
    · exact .inl q
    · injection hv with hv e2 e3
      subst hv e3
      exact .inr ⟨g, c, cur, rfl, hA g (At.some_.2 rfl), r⟩
  obtain ⟨v', w', hr, h5, h6, h7⟩ := Lib.run_append_own_string (P := Try.prog) w b0 48 9 ty 5 i Try.underlying48 Try.underlying9 h1 h2 h3 h4 (.slice A n c) n (u8s bs) hown s (by simp only [maxLen]; omega) (by omega) hb0
  rw [strCells_u8] at h5
  have hu : Upd (At A) w w' := (Upd.of_grown h6).mono (fun k _ hk => by
    cases A with
    | none => simp [Value.ownBlock] at hk
    | some a => exact ⟨a.off, a.spot, by simp [Value.ownBlock] at hk; subst hk; rfl⟩)
  have hcat : u8s bs ++ u8s (kx s) = u8s (bs ++ kx s) := by simp [u8s]
  rw [hcat] at h5
  rcases h5.2 with ⟨rfl, h0⟩ | ⟨g, cap, cur, rfl, hbg, r⟩
  · refine ⟨none, 0, w', ?_, ?_, hu, fun k hk => (At.none_ hk).elim⟩
    · rw [h0]; exact hr
    · refine ⟨h5.1, .inl ⟨?_, h0⟩⟩
      rw [h0]
  · exact ⟨some ⟨g, 0, none⟩, cap, w', hr, ⟨h5.1, .inr ⟨g, cap, cur, rfl, Nat.zero_le _, r⟩⟩, hu, fun k hk => by rw [At.some_] at hk; subst hk; exact hbg⟩
theorem wp_apps {w : World} {o : Oper} {a : Act} {K : Act → World → Prop} {Q : Exit → Act → World → Prop} {s x : Operand}
    (ho : o.op = .call { callee := .builtin .append, args := #[s, x], argTypes := #[48, 9] }) {A : Option Addr} {n c : Nat} {bs : Bs} (hs : a.eval s = .slice A n c) (h : Own w 5 1 A n c (u8s bs)) {b0 : Nat} (hA : ∀ k, At A k → b0 ≤ k) (hb0 : b0 ≤ w.heap.size) {str : ByteArray} (hx : a.eval x = .string str) (hn : n + str.size ≤ 100000000000000)
    (k : ∀ A' c' w', Own w' 5 1 A' (n + str.size) c' (u8s (bs ++ kx str)) → Upd (At A) w w' → (∀ k, At A' k → b0 ≤ k) → K (a.put o.dst (.slice A' (n + str.size) c')) w') : o.wp Try.prog a w K Q := by
  obtain ⟨A', c', w', hrun, h2, h3, h4⟩ := run_apps h hA hb0 str hn o.type
  unfold Oper.wp execOp
  simp only [ho, resolve, invoke, builtin, Sem.run_bind, Sem.run_pure, Result.andThen_ok, List.map_toArray, List.map_cons, List.map_nil, hs, hx, hrun]
  exact k A' c' w' h2 h3 h4
theorem step_apps {w : World} {ops : Array Oper} {o : Oper} {a : Act} {K : Act → World → Prop} {Q : Exit → Act → World → Prop} {E : Prop} (hgd : o.guard = none) {s x : Operand}
    (ho : o.op = .call { callee := .builtin .append, args := #[s, x], argTypes := #[48, 9] }) {A : Option Addr} {n c : Nat} {bs : Bs} (hs : a.eval s = .slice A n c) (h : Own w 5 1 A n c (u8s bs)) {b0 : Nat} (hA : ∀ k, At A k → b0 ≤ k) (hb0 : b0 ≤ w.heap.size) {str : ByteArray} (hx : a.eval x = .string str) (hn : n + str.size ≤ 100000000000000)
    (k : ∀ A' c' w', Own w' 5 1 A' (n + str.size) c' (u8s (bs ++ kx str)) → Upd (At A) w w' → (∀ k, At A' k → b0 ≤ k) → K (a.put o.dst (.slice A' (n + str.size) c')) w') :
    if Region.wanted o (yielded ops a.tmps) = true then Oper.wp Try.prog o a w K Q else E := by
  have hw : Region.wanted o (yielded ops a.tmps) = true := by simp [Region.wanted, hgd]
  rw [if_pos hw]
  exact wp_apps ho hs h hA hb0 hx hn k
theorem wpList_apps {w : World} {ops : Array Oper} {rest : List Oper} {o : Oper} {a : Act} {Q : Exit → Act → World → Prop} (hgd : o.guard = none) {s x : Operand}
    (ho : o.op = .call { callee := .builtin .append, args := #[s, x], argTypes := #[48, 9] }) {A : Option Addr} {n c : Nat} {bs : Bs} (hs : a.eval s = .slice A n c) (h : Own w 5 1 A n c (u8s bs)) {b0 : Nat} (hA : ∀ k, At A k → b0 ≤ k) (hb0 : b0 ≤ w.heap.size) {str : ByteArray} (hx : a.eval x = .string str) (hn : n + str.size ≤ 100000000000000)
    (k : ∀ A' c' w', Own w' 5 1 A' (n + str.size) c' (u8s (bs ++ kx str)) → Upd (At A) w w' → (∀ k, At A' k → b0 ≤ k) → wpList Try.prog ops Q rest (a.put o.dst (.slice A' (n + str.size) c')) w') : wpList Try.prog ops Q (o :: rest) a w :=
  wpList_plain hgd fun _ hK => wp_apps ho hs h hA hb0 hx hn fun A' c' w' h2 h3 h4 => hK _ _ (k A' c' w' h2 h3 h4)
/-- Bytes of one's own as a string. -/
theorem conv_own {w : World} {A : Option Addr} {n c : Nat} {bs : Bs} (h : Own w 5 1 A n c (u8s bs)) (hn : n = bs.length) : (convert 48 9 (.slice A n c)).run Try.prog w = .ok (.string (kstr bs)) w := by
  have hs : Sl w (At A) A ((bs.map fun b => (b.toNat : Int)).map fun x => Value.int .u8 x) := by
    have := Own.sl h
    rw [show (bs.map fun b => (b.toNat : Int)).map (fun x => Value.int .u8 x) = u8s bs by simp [u8s]]
    exact this
  have := run_str (P := Try.prog) (src := 48) (dst := 9) Try.underlying48 Try.underlying5 Try.underlying9 (n := n) (c := c) hs (by simpa using hn)
  rw [bstr_ub] at this
  exact this
end Go.Proofs.Ytblkgjdhaibhgaa
