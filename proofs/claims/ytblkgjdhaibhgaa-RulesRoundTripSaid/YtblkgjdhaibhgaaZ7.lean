/-
  Lemmas and walks that the claim rests on, part 7 (packed by a program).
-/
import Derived.Test.YtblkgjdhaibhgaaZ6
import Derived.Lib.AppendStr
import Derived.Test.YtblkgjdhaibhgaaZ3
import Derived.Laws.ResultCell
import Derived.Laws.Rows
namespace Go.Proofs.Ytblkgjdhaibhgaa
open Go.RowKit
def PI (p : Pt) : Prop := ∀ q ∈ nodes p, I64 q.imm
structure RlI (R : Rl) : Prop where
 l : PI R.l
 r : PI R.r
 c : ∀ x ∈ R.conds, I64 x.n
theorem nodes_self (p : Pt) : p ∈ nodes p := by cases p; simp [nodes]
theorem nodesL_mem {q k : Pt} : ∀ {ks : List Pt}, k ∈ ks → q ∈ nodes k → q ∈ nodesL ks
 | x :: ks, hk, hq => by
  simp only [nodesL, List.mem_append]
  rcases List.mem_cons.1 hk with rfl | hk
  ·
   exact .inl hq
  ·
   exact .inr (nodesL_mem hk hq)
theorem PI.kid {p k : Pt} (h : PI p) (hk : k ∈ p.kids) : PI k := fun q hq => h q (by
 cases p
 simp only [nodes, List.mem_cons]
 exact .inr (nodesL_mem hk hq))
theorem oS_ops {op : Int} (h : (oSortsF op).2.2 = true) : op = 1 ∨ (4 ≤ op ∧ op < 32) := by
 rw [← allowed_ok] at h
 simp only [allowedF, decide_eq_true_iff] at h
 omega
theorem shp_fm (p : Pt) : ∀ (s m : Int) (n : Nat), shp p s m n = true → m ≤ 6 → n ≤ 6 → PI p → FmOk p := by
 induction p using Pt.ind with
 | h p ih =>
  intro s m n hs hm hn hi
  by_cases hv : p.v = 0
  ·
   rw [shp_op hv, Bool.and_eq_true, decide_eq_true_iff] at hs
   obtain ⟨⟨h1, h2, _, h4⟩, h5⟩ := hs
   have hI := hi p (nodes_self p)
   have hiv : p.iv ≤ 100 := by
    unfold pImmF at h4
    split at h4
    ·
     simp only [Bool.and_eq_true, decide_eq_true_iff] at h4; omega
    ·
     omega
   have hks : ∀ k ∈ p.kids, FmOk k := fun k hk => by
    obtain ⟨i, hi2, rfl⟩ := List.mem_iff_getElem.1 hk
    exact ih _ hk _ m n (shpL_at hi2 h5) hm hn (hi.kid hk)
   cases p with
   | mk v op imm iv ks =>
    dsimp only [Pt.v, Pt.op, Pt.imm, Pt.iv, Pt.kids] at *
    rcases oS_ops h1 with rfl | ⟨a, b⟩
    ·
     exact .cst (by omega) hI.1 hI.2 hiv
    ·
     exact .app (by omega) a b hI.1 hI.2 hiv hks
  ·
   rw [shp_var hv, decide_eq_true_iff] at hs
   cases p with
   | mk v op imm iv ks =>
    dsimp only [Pt.v, Pt.op, Pt.imm, Pt.iv, Pt.kids] at *
    exact .var (by omega) (by omega)
theorem cond_fm {c : Cd} {ss : List Int} {m : Int} (h : condF c ss m = true) (hs : ss.length ≤ 7) (hm : m ≤ 6) (hn : I64 c.n) : CdFm c := by
 unfold condF at h
 split at h
 ·
  simp only [isValF, Bool.and_eq_true, decide_eq_true_iff] at h; exact ⟨by omega, by omega, by omega, by omega, by omega, by omega, hn.1, hn.2⟩
 ·
  split at h
  ·
   simp only [isValF, Bool.and_eq_true, decide_eq_true_iff] at h; exact ⟨by omega, by omega, by omega, by omega, by omega, by omega, hn.1, hn.2⟩
  ·
   split at h
   ·
    simp only [isValF, Bool.and_eq_true, decide_eq_true_iff] at h; exact ⟨by omega, by omega, by omega, by omega, by omega, by omega, hn.1, hn.2⟩
   ·
    split at h
    ·
     simp only [isValF, isImmF, Bool.and_eq_true, decide_eq_true_iff] at h; exact ⟨by omega, by omega, by omega, by omega, by omega, by omega, hn.1, hn.2⟩
    ·
     split at h
     ·
      simp only [isImmF, Bool.and_eq_true, decide_eq_true_iff] at h; exact ⟨by omega, by omega, by omega, by omega, by omega, by omega, hn.1, hn.2⟩
     ·
      cases h
structure FmR (R : Rl) : Prop where
 l : FmOk R.l
 r : FmOk R.r
 c : ∀ x ∈ R.conds, CdFm x
 few : R.conds.length ≤ 6
 ls : R.l.size ≤ 24
 rs : R.r.size ≤ 24
 n : R.name.size ≤ 16
theorem impl_fm {r : Rl} (h : implF r = true) (hi : RlI r) : FmR r := by
 have k := imp_ok h
 have hv := k.vars
 refine ⟨shp_fm _ _ _ _ k.shl k.imms.2 (by omega) hi.l, shp_fm _ _ _ _ k.shr k.imms.2 (by omega) hi.r, fun x hx => cond_fm (k.cnd x hx) (by simp; omega) k.imms.2 (hi.c x hx), k.few, k.sizes.1, k.sizes.2, ?_⟩
 have := k.name
 simp only [nameF, Bool.and_eq_true, decide_eq_true_iff] at this
 exact this.2.2
theorem fmtCs_len : ∀ {cs : List Cd} {b : Bool}, (∀ x ∈ cs, CdFm x) → (fmtCs cs b).length ≤ 44 * cs.length
 | [], b, _ => by simp [fmtCs]
 | c :: cs, b, h => by
  have e1 := fmtC_len (h c List.mem_cons_self)
  have e2 := fmtCs_len (cs := cs) (b := false) (fun x hx => h x (List.mem_cons_of_mem _ hx))
  simp only [fmtCs, List.length_append, List.length_cons]
  have : (if b = true then [32, 105, 102, 32] else ([44, 32] : Bs)).length ≤ 4 := by split <;> simp
  omega
theorem fmtCs_snoc (c : Cd) : ∀ (cs : List Cd) (b : Bool), fmtCs (cs ++ [c]) b = fmtCs cs b ++ ((if b && cs.isEmpty then [32, 105, 102, 32] else [44, 32]) ++ fmtC c)
 | [], b => by simp [fmtCs]
 | x :: cs, b => by simp [fmtCs, fmtCs_snoc c cs]
theorem fmtR_len {r : Rl} (h : FmR r) : (fmtR r).length ≤ 2000 := by
 have e1 := fmtF_len _ h.l
 have e2 := fmtF_len _ h.r
 have e3 := fmtCs_len (b := true) h.c
 have e4 := h.few
 have e5 := h.ls
 have e6 := h.rs
 have e7 : (kx r.name).length ≤ 16 := by rw [kx_len]; exact h.n
 unfold fmtR
 simp only [List.length_append, List.length_cons, List.length_nil]
 omega
theorem fmtRs_snoc (r : Rl) : ∀ L : List Rl, fmtRs (L ++ [r]) = fmtRs L ++ fmtR r
 | [] => by simp [fmtRs]
 | x :: L => by simp [fmtRs, fmtRs_snoc r L]
theorem fmtRs_len : ∀ {L : List Rl}, (∀ r ∈ L, FmR r) → (fmtRs L).length ≤ 2000 * L.length
 | [], _ => by simp [fmtRs]
 | r :: L, h => by
  have e1 := fmtR_len (h r List.mem_cons_self)
  have e2 := fmtRs_len (L := L) (fun x hx => h x (List.mem_cons_of_mem _ hx))
  simp only [fmtRs, List.length_append, List.length_cons]
  omega
end Go.Proofs.Ytblkgjdhaibhgaa
namespace Go.Proofs.Ytblkgjdhaibhgaa
open Go.RowKit
theorem strCells_u8 (s : ByteArray) : Lib.strCells s = u8s (kx s) := rfl
theorem run_apps {w : World} {A : Option Addr} {n c : Nat} {bs : Bs} (h : Own w 5 1 A n c (u8s bs)) {b0 : Nat} (hA : ∀ k, At A k → b0 ≤ k) (hb0 : b0 ≤ w.heap.size) (s : ByteArray) (hs : n + s.size ≤ 100000000000000) (ty : TypeId) :
  ∃ A' c' w', (Builtin.append_ #[48, 9] ty #[.slice A n c, .string s]).run Try.prog w = .ok (.slice A' (n + s.size) c') w' ∧ Own w' 5 1 A' (n + s.size) c' (u8s (bs ++ kx s)) ∧ Upd (At A) w w' ∧ (∀ k, At A' k → b0 ≤ k) := by
 obtain ⟨i, h1, h2, h3, h4⟩ := info_parts (show (Try.prog.info? 5).map (fun i => (i.zero, i.size, i.bytes)) = some (some (.int .u8 0), 1, 1) from by kernel_rfl)
 have hown : w.ownsRow b0 5 1 (.slice A n c) n (u8s bs) := by
  refine ⟨h.1, ?_⟩
  rcases h.2 with q | ⟨g, cap, cur, hv, _, r⟩
  ·
   exact .inl q
  ·
   injection hv with hv e2 e3
   subst hv e3
   exact .inr ⟨g, c, cur, rfl, hA g (At.some_.2 rfl), r⟩
 obtain ⟨v', w', hr, h5, h6, h7⟩ := Lib.run_append_own_string (P := Try.prog) w b0 48 9 ty 5 i Try.underlying48 Try.underlying9 h1 h2 h3 h4 (.slice A n c) n (u8s bs) hown s (by simp only [maxLen]; omega) (by omega) hb0
 rw [strCells_u8] at h5
 have hu : Upd (At A) w w' := (Upd.of_grown h6).mono (fun k _ hk => by
  cases A with
  | none => simp [Value.ownBlock] at hk
  | some a => exact ⟨a.off, a.spot, by simp [Value.ownBlock] at hk; subst hk; rfl⟩)
 have hcat : u8s bs ++ u8s (kx s) = u8s (bs ++ kx s) := by simp [u8s]
 rw [hcat] at h5
 rcases h5.2 with ⟨rfl, h0⟩ | ⟨g, cap, cur, rfl, hbg, r⟩
 ·
  refine ⟨none, 0, w', ?_, ?_, hu, fun k hk => (At.none_ hk).elim⟩
  ·
   rw [h0]; exact hr
  ·
   refine ⟨h5.1, .inl ⟨?_, h0⟩⟩
   rw [h0]
 ·
  exact ⟨some ⟨g, 0, none⟩, cap, w', hr, ⟨h5.1, .inr ⟨g, cap, cur, rfl, Nat.zero_le _, r⟩⟩, hu, fun k hk => by rw [At.some_] at hk; subst hk; exact hbg⟩
theorem wp_apps {w : World} {o : Oper} {a : Act} {K : Act → World → Prop} {Q : Exit → Act → World → Prop} {s x : Operand}
  (ho : o.op = .call { callee := .builtin .append, args := #[s, x], argTypes := #[48, 9] }) {A : Option Addr} {n c : Nat} {bs : Bs} (hs : a.eval s = .slice A n c) (h : Own w 5 1 A n c (u8s bs)) {b0 : Nat} (hA : ∀ k, At A k → b0 ≤ k) (hb0 : b0 ≤ w.heap.size) {str : ByteArray} (hx : a.eval x = .string str) (hn : n + str.size ≤ 100000000000000)
  (k : ∀ A' c' w', Own w' 5 1 A' (n + str.size) c' (u8s (bs ++ kx str)) → Upd (At A) w w' → (∀ k, At A' k → b0 ≤ k) → K (a.put o.dst (.slice A' (n + str.size) c')) w') : o.wp Try.prog a w K Q := by
 obtain ⟨A', c', w', hrun, h2, h3, h4⟩ := run_apps h hA hb0 str hn o.type
 unfold Oper.wp execOp
 simp only [ho, resolve, invoke, builtin, Sem.run_bind, Sem.run_pure, Result.andThen_ok, List.map_toArray, List.map_cons, List.map_nil, hs, hx, hrun]
 exact k A' c' w' h2 h3 h4
theorem step_apps {w : World} {ops : Array Oper} {o : Oper} {a : Act} {K : Act → World → Prop} {Q : Exit → Act → World → Prop} {E : Prop} (hgd : o.guard = none) {s x : Operand}
  (ho : o.op = .call { callee := .builtin .append, args := #[s, x], argTypes := #[48, 9] }) {A : Option Addr} {n c : Nat} {bs : Bs} (hs : a.eval s = .slice A n c) (h : Own w 5 1 A n c (u8s bs)) {b0 : Nat} (hA : ∀ k, At A k → b0 ≤ k) (hb0 : b0 ≤ w.heap.size) {str : ByteArray} (hx : a.eval x = .string str) (hn : n + str.size ≤ 100000000000000)
  (k : ∀ A' c' w', Own w' 5 1 A' (n + str.size) c' (u8s (bs ++ kx str)) → Upd (At A) w w' → (∀ k, At A' k → b0 ≤ k) → K (a.put o.dst (.slice A' (n + str.size) c')) w') :
  if Region.wanted o (yielded ops a.tmps) = true then Oper.wp Try.prog o a w K Q else E := by
 have hw : Region.wanted o (yielded ops a.tmps) = true := by simp [Region.wanted, hgd]
 rw [if_pos hw]
 exact wp_apps ho hs h hA hb0 hx hn k
theorem wpList_apps {w : World} {ops : Array Oper} {rest : List Oper} {o : Oper} {a : Act} {Q : Exit → Act → World → Prop} (hgd : o.guard = none) {s x : Operand}
  (ho : o.op = .call { callee := .builtin .append, args := #[s, x], argTypes := #[48, 9] }) {A : Option Addr} {n c : Nat} {bs : Bs} (hs : a.eval s = .slice A n c) (h : Own w 5 1 A n c (u8s bs)) {b0 : Nat} (hA : ∀ k, At A k → b0 ≤ k) (hb0 : b0 ≤ w.heap.size) {str : ByteArray} (hx : a.eval x = .string str) (hn : n + str.size ≤ 100000000000000)
  (k : ∀ A' c' w', Own w' 5 1 A' (n + str.size) c' (u8s (bs ++ kx str)) → Upd (At A) w w' → (∀ k, At A' k → b0 ≤ k) → wpList Try.prog ops Q rest (a.put o.dst (.slice A' (n + str.size) c')) w') : wpList Try.prog ops Q (o :: rest) a w :=
 wpList_plain hgd fun _ hK => wp_apps ho hs h hA hb0 hx hn fun A' c' w' h2 h3 h4 => hK _ _ (k A' c' w' h2 h3 h4)
theorem conv_own {w : World} {A : Option Addr} {n c : Nat} {bs : Bs} (h : Own w 5 1 A n c (u8s bs)) (hn : n = bs.length) : (convert 48 9 (.slice A n c)).run Try.prog w = .ok (.string (kstr bs)) w := by
 have hs : Sl w (At A) A ((bs.map fun b => (b.toNat : Int)).map fun x => Value.int .u8 x) := by
  have := Own.sl h
  rw [show (bs.map fun b => (b.toNat : Int)).map (fun x => Value.int .u8 x) = u8s bs by simp [u8s]]
  exact this
 have := run_str (P := Try.prog) (src := 48) (dst := 9) Try.underlying48 Try.underlying5 Try.underlying9 (n := n) (c := c) hs (by simpa using hn)
 rw [bstr_ub] at this
 exact this
end Go.Proofs.Ytblkgjdhaibhgaa
namespace Go.Proofs.Ytblkgjdhaibhgaa
open Go.RowKit
inductive Fm6 : Pt → Prop
 | var {v : Int} : 0 < v → v ≤ 6 → Fm6 (.mk v 0 0 0 [])
 | cst {imm : Int} : I64 imm → Fm6 (.mk 0 1 imm 0 [])
 | cim {iv : Int} : 0 < iv → iv ≤ 6 → Fm6 (.mk 0 1 0 iv [])
 | app {op imm iv : Int} {ks : List Pt} : 4 ≤ op → op < 32 → arF op = some ks.length → I64 imm → 0 ≤ iv → iv ≤ 6 → (iv ≠ 0 → imm = 0) → (immOp op = false → imm = 0 ∧ iv = 0) → (∀ k ∈ ks, Fm6 k) → Fm6 (.mk 0 op imm iv ks)
def sfx (op imm iv : Int) : Bs := if 0 < iv then 46 :: inF iv else if immOp op = true then 46 :: textF imm else []
mutual
def wT : Pt → List Bs
 | .mk v op imm iv ks =>
  if 0 < v then [vnF v] else if op = 1 then [if 0 < iv then 36 :: inF iv else textF imm]
  else [40] :: (opNm op ++ sfx op imm iv) :: (wTL ks ++ [[41]])
def wTL : List Pt → List Bs
 | [] => []
 | k :: ks => wT k ++ wTL ks
end
theorem isDg_w {c : UInt8} (h : isDg c = true) : wordCh c = true ∧ c.toNat ≠ 47 := by
 simp only [isDg, decide_eq_true_eq] at h
 refine ⟨?_, by omega⟩
 simp only [wordCh, isPn, Bool.and_eq_true, decide_eq_true_eq, Bool.not_eq_true', decide_eq_false_iff_not]
 omega
theorem dg_of {n : Nat} (h : n < 10) : isDg (UInt8.ofNat (48 + n)) = true ∧ (UInt8.ofNat (48 + n)).toNat = 48 + n := by
 have e : (UInt8.ofNat (48 + n)).toNat = 48 + n := by simp; omega
 refine ⟨?_, e⟩
 simp only [isDg, decide_eq_true_eq, e]
 omega
theorem decG_dg : ∀ (f n : Nat), ∀ c ∈ decG f n, isDg c = true
 | 0, n, c, h => by simp [decG] at h
 | f + 1, n, c, h => by
  rw [decG] at h
  split at h
  ·
   rename_i hn
   rw [List.mem_singleton] at h; subst h; exact (dg_of hn).1
  ·
   rcases List.mem_append.1 h with h | h
   ·
    exact decG_dg f _ c h
   ·
    rw [List.mem_singleton] at h; subst h; exact (dg_of (Nat.mod_lt _ (by decide))).1
theorem decD_ne (n : Nat) : decD n ≠ [] := by
 unfold decD
 rw [decG]
 split <;> simp
theorem wOk_app {a b : Bs} (ha : wOk a = true) (hb : wOk b = true) : wOk (a ++ b) = true := by simp only [wOk, List.all_append, Bool.and_eq_true] at *; exact ⟨ha, hb⟩
theorem wOk_dec (n : Nat) : wOk (decD n) = true := by
 simp only [wOk, List.all_eq_true]
 intro c hc
 have := isDg_w (decG_dg 20 n c hc)
 simp [this.1, this.2]
theorem wOk_text (n : Int) : wOk (textF n) = true := by
 unfold textF
 split
 ·
  exact wOk_app (a := [45]) (by decide) (wOk_dec _)
 ·
  exact wOk_dec _
theorem textF_ne (n : Int) : textF n ≠ [] := by
 unfold textF
 split
 ·
  simp
 ·
  exact decD_ne _
theorem i6 {n : Int} (h0 : 0 < n) (h : n ≤ 6) : n = 1 ∨ n = 2 ∨ n = 3 ∨ n = 4 ∨ n = 5 ∨ n = 6 := by omega
theorem wOk_vn {n : Int} (h0 : 0 < n) (h : n ≤ 6) : wOk (vnF n) = true := by
 rcases i6 h0 h with rfl | rfl | rfl | rfl | rfl | rfl <;> decide
theorem wOk_in {n : Int} (h0 : 0 < n) (h : n ≤ 6) : wOk (inF n) = true := by
 rcases i6 h0 h with rfl | rfl | rfl | rfl | rfl | rfl <;> decide
theorem wOk_names : ∀ s ∈ nameL, wOk s = true ∧ s ≠ [] := by decide
theorem opNm_ok {op : Int} (h0 : 4 ≤ op) (h1 : op < 32) : wOk (opNm op) = true ∧ opNm op ≠ [] := by
 unfold opNm
 have h : (op - 4).toNat < nameL.length := by show _ < 28; omega
 rw [List.getD, List.getElem?_eq_getElem h, Option.getD_some]
 exact wOk_names _ (List.getElem_mem h)
theorem wOk_conds : ∀ s ∈ condL, wOk s = true ∧ s ≠ [] := by decide
theorem wOk_sfx {op imm iv : Int} (h : iv ≤ 6) : wOk (sfx op imm iv) = true := by
 unfold sfx
 split
 ·
  rename_i q
  exact wOk_app (a := [46]) (by decide) (wOk_in q h)
 ·
  split
  ·
   exact wOk_app (a := [46]) (by decide) (wOk_text _)
  ·
   rfl
def dlm (d : UInt8) : Prop := isSp d = true ∨ isPn d = true
mutual
theorem lex_fmt : ∀ (p : Pt), Fm6 p → ∀ {d : UInt8} {s : Bs} {ws : List Bs}, dlm d → Lex (d :: s) ws → Lex (fmtF p ++ d :: s) (wT p ++ ws)
 | .mk v op imm iv ks, h, d, s, ws, hd, hr => by
  unfold fmtF wT
  cases h with
  | var h1 h2 =>
   rw [if_pos h1, if_pos h1]
   exact Lex.word (wOk_vn h1 h2) (by simp [vnF]) hd hr
  | cst h1 =>
   simp only [show ¬ (0 : Int) < 0 by decide, if_false, if_true]
   exact Lex.word (wOk_text _) (textF_ne _) hd hr
  | cim h1 h2 =>
   simp only [show ¬ (0 : Int) < 0 by decide, if_false, if_true, h1]
   exact Lex.word (wOk_app (a := [36]) (by decide) (wOk_in h1 h2)) (by simp) hd hr
  | app h1 h2 h3 h4 h5 h6 h7 h8 h9 =>
   have q1 : ¬ op = 1 := by omega
   simp only [show ¬ (0 : Int) < 0 by decide, if_false, q1]
   obtain ⟨o1, o2⟩ := opNm_ok h1 h2
   have hw : wOk (opNm op ++ sfx op imm iv) = true := wOk_app o1 (wOk_sfx h6)
   have hwn : opNm op ++ sfx op imm iv ≠ [] := fun q => o2 (List.append_eq_nil_iff.1 q).1
   have hcl : Lex (41 :: (d :: s)) ([41] :: ws) := Lex.app (s1 := [41]) (w1 := [[41]]) (Lex.pn (by decide)) hr
   obtain ⟨e, t, he, hde, hlx⟩ := lex_fmtL ks h9 (d := 41) (s := d :: s) (ws := [41] :: ws) (.inr (by decide)) hcl
   have h10 : Lex ((opNm op ++ sfx op imm iv) ++ e :: t) ((opNm op ++ sfx op imm iv) :: (wTL ks ++ [41] :: ws)) := Lex.word hw hwn hde hlx
   rw [← he] at h10
   have h11 := Lex.app (s1 := [40]) (w1 := [[40]]) (Lex.pn (by decide)) h10
   have e1 : [40] ++ ((opNm op ++ sfx op imm iv) ++ (fmtL ks ++ 41 :: (d :: s))) = [40] ++ opNm op ++ (if 0 < iv then 46 :: inF iv else if immOp op = true then 46 :: textF imm else []) ++ fmtL ks ++ [41] ++ d :: s := by simp [sfx]
   have e2 : [[40]] ++ (opNm op ++ sfx op imm iv) :: (wTL ks ++ [41] :: ws) = ([40] :: (opNm op ++ sfx op imm iv) :: (wTL ks ++ [[41]])) ++ ws := by simp
   rw [e1, e2] at h11
   exact h11
theorem lex_fmtL : ∀ (ks : List Pt), (∀ k ∈ ks, Fm6 k) → ∀ {d : UInt8} {s : Bs} {ws : List Bs}, dlm d → Lex (d :: s) ws → ∃ e t, fmtL ks ++ d :: s = e :: t ∧ dlm e ∧ Lex (e :: t) (wTL ks ++ ws)
 | [], _, d, s, ws, hd, hr => ⟨d, s, rfl, hd, hr⟩
 | k :: ks, h, d, s, ws, hd, hr => by
  obtain ⟨e, t, he, hde, hlx⟩ := lex_fmtL ks (fun q hq => h q (List.mem_cons_of_mem _ hq)) hd hr
  have h1 := lex_fmt k (h k List.mem_cons_self) hde hlx
  refine ⟨32, fmtF k ++ (e :: t), ?_, .inl (by decide), ?_⟩
  ·
   rw [← he]
   simp [fmtL]
  ·
   have := Lex.app (s1 := [32]) (w1 := []) (Lex.sp (by decide)) h1
   unfold wTL
   rw [List.append_assoc]
   exact this
end
structure Cd6 (c : Cd) : Prop where
 k0 : 1 ≤ c.kind
 k1 : c.kind ≤ 6
 a0 : 0 < c.a
 a1 : c.a ≤ 6
 b0 : 4 ≤ c.kind → 0 < c.b ∧ c.b ≤ 6
 b1 : c.kind ≤ 3 → c.b = 0
 n0 : c.kind ≠ 2 → c.kind ≠ 3 → c.n = 0
 n1 : I64 c.n
def wC (c : Cd) : List Bs :=
 condNm c.kind :: (if c.kind = 1 then [vnF c.a] else if c.kind = 4 then [vnF c.a, vnF c.b] else if c.kind = 5 then [vnF c.a, inF c.b] else if c.kind = 6 then [inF c.a, inF c.b] else [vnF c.a, textF c.n])
def wCs : List Cd → Bool → List Bs
 | [], _ => []
 | c :: cs, first => (if first then [105, 102] else [44]) :: wC c ++ wCs cs false
def wR (r : Rl) : List Bs := [[114, 117, 108, 101], kx r.name, [58]] ++ wT r.l ++ [[61, 62]] ++ wT r.r ++ wCs r.conds true ++ [[59]]
theorem condNm_ok {k : Int} (h0 : 1 ≤ k) (h1 : k ≤ 6) : wOk (condNm k) = true ∧ condNm k ≠ [] := by
 unfold condNm
 have h : (k - 1).toNat < condL.length := by show _ < 6; omega
 rw [List.getD, List.getElem?_eq_getElem h, Option.getD_some]
 exact wOk_conds _ (List.getElem_mem h)
theorem lex_two {a b : Bs} (ha : wOk a = true) (hna : a ≠ []) (hb : wOk b = true) (hnb : b ≠ []) {d : UInt8} {s : Bs} {ws : List Bs} (hd : dlm d) (hr : Lex (d :: s) ws) : Lex (a ++ [32] ++ b ++ d :: s) (a :: b :: ws) := by
 have h1 := Lex.word hb hnb hd hr
 have h2 := Lex.app (s1 := [32]) (w1 := []) (Lex.sp (by decide)) h1
 have h3 := Lex.word (s := b ++ d :: s) ha hna (.inl (by decide)) h2
 have e : a ++ [32] ++ b ++ d :: s = a ++ 32 :: (b ++ d :: s) := by simp
 rw [e]
 exact h3
theorem lex_c {c : Cd} (h : Cd6 c) {d : UInt8} {s : Bs} {ws : List Bs} (hd : dlm d) (hr : Lex (d :: s) ws) : Lex (fmtC c ++ d :: s) (wC c ++ ws) := by
 obtain ⟨k1, k2⟩ := condNm_ok h.k0 h.k1
 have va := wOk_vn h.a0 h.a1
 have ia := wOk_in h.a0 h.a1
 have nv : ∀ n, vnF n ≠ [] := fun n => by simp [vnF]
 have ni : ∀ n, inF n ≠ [] := fun n => by simp [inF]
 have key : ∀ {t : Bs} {us : List Bs}, Lex (t ++ d :: s) (us ++ ws) → Lex (condNm c.kind ++ [32] ++ t ++ d :: s) (condNm c.kind :: us ++ ws) := fun {t us} hk => by
  have h2 := Lex.app (s1 := [32]) (w1 := []) (Lex.sp (by decide)) hk
  have h3 := Lex.word (s := t ++ d :: s) k1 k2 (.inl (by decide)) h2
  have e : condNm c.kind ++ [32] ++ t ++ d :: s = condNm c.kind ++ 32 :: (t ++ d :: s) := by simp
  rw [e]
  exact h3
 unfold fmtC wC
 refine key ?_
 split
 ·
  exact Lex.word va (nv _) hd hr
 ·
  split
  ·
   have hb := h.b0 (by omega); exact lex_two va (nv _) (wOk_vn hb.1 hb.2) (nv _) hd hr
  ·
   split
   ·
    have hb := h.b0 (by omega); exact lex_two va (nv _) (wOk_in hb.1 hb.2) (ni _) hd hr
   ·
    split
    ·
     have hb := h.b0 (by omega); exact lex_two ia (ni _) (wOk_in hb.1 hb.2) (ni _) hd hr
    ·
     exact lex_two va (nv _) (wOk_text _) (textF_ne _) hd hr
theorem lex_cs : ∀ (cs : List Cd) (b : Bool), (∀ c ∈ cs, Cd6 c) → ∀ {d : UInt8} {s : Bs} {ws : List Bs}, dlm d → Lex (d :: s) ws → ∃ e t, fmtCs cs b ++ d :: s = e :: t ∧ dlm e ∧ Lex (e :: t) (wCs cs b ++ ws)
 | [], _, _, d, s, ws, hd, hr => ⟨d, s, rfl, hd, hr⟩
 | c :: cs, b, h, d, s, ws, hd, hr => by
  obtain ⟨e, t, he, hde, hlx⟩ := lex_cs cs false (fun q hq => h q (List.mem_cons_of_mem _ hq)) hd hr
  have h1 := lex_c (h c List.mem_cons_self) hde hlx
  have h2 := Lex.app (s1 := [32]) (w1 := []) (Lex.sp (by decide)) h1
  cases b with
  | true =>
   have h3 := Lex.word (w := [105, 102]) (d := 32) (s := fmtC c ++ e :: t) (by decide) (by simp) (.inl (by decide)) h2
   have h4 := Lex.app (s1 := [32]) (w1 := []) (Lex.sp (by decide)) h3
   refine ⟨32, [105, 102, 32] ++ fmtC c ++ e :: t, ?_, .inl (by decide), ?_⟩
   ·
    rw [← he]
    simp [fmtCs]
   ·
    have e1 : [32] ++ ([105, 102] ++ 32 :: (fmtC c ++ e :: t)) = 32 :: ([105, 102, 32] ++ fmtC c ++ e :: t) := by simp
    rw [e1] at h4
    have e2 : [] ++ [105, 102] :: ([] ++ (wC c ++ (wCs cs false ++ ws))) = wCs (c :: cs) true ++ ws := by simp [wCs]
    rw [e2] at h4
    exact h4
  | false =>
   have h3 := Lex.app (s1 := [44]) (w1 := [[44]]) (Lex.pn (by decide)) h2
   refine ⟨44, 32 :: (fmtC c ++ e :: t), ?_, .inr (by decide), ?_⟩
   ·
    rw [← he]
    simp [fmtCs]
   ·
    have e2 : [[44]] ++ ([] ++ (wC c ++ (wCs cs false ++ ws))) = wCs (c :: cs) false ++ ws := by simp [wCs]
    rw [e2] at h3
    exact h3
theorem name_ok {n : ByteArray} (h : nameF n = true) : wOk (kx n) = true ∧ kx n ≠ [] := by
 simp only [nameF, Bool.and_eq_true, decide_eq_true_eq] at h
 refine ⟨?_, fun q => ?_⟩
 ·
  have h1 := h.1
  simp only [wOk, List.all_eq_true] at h1 ⊢
  intro c hc
  have := h1 c hc
  simp only [nmCh, decide_eq_true_eq] at this
  simp only [Bool.and_eq_true, decide_eq_true_eq, wordCh, isPn, Bool.not_eq_true', decide_eq_false_iff_not]
  omega
 ·
  have := kx_len n
  rw [q] at this
  simp at this
  omega
structure Rt6 (R : Rl) : Prop where
 n : nameF R.name = true
 l : Fm6 R.l
 r : Fm6 R.r
 c : ∀ x ∈ R.conds, Cd6 x
theorem lex_rule {r : Rl} (h : Rt6 r) : Lex (fmtR r) (wR r) := by
 have h0 : Lex [59, 10] [[59]] := Lex.app (s1 := [59]) (w1 := [[59]]) (s2 := [10]) (w2 := []) (Lex.pn (by decide)) (Lex.sp (by decide))
 obtain ⟨e, t, he, hde, h1⟩ := lex_cs r.conds true h.c (d := 59) (s := [10]) (.inr (by decide)) h0
 have h2 := lex_fmt r.r h.r hde h1
 have h3 := Lex.app (s1 := [32]) (w1 := []) (Lex.sp (by decide)) h2
 have h4 := Lex.word (w := [61, 62]) (d := 32) (s := fmtF r.r ++ e :: t) (by decide) (by simp) (.inl (by decide)) h3
 have h5 := Lex.app (s1 := [32]) (w1 := []) (Lex.sp (by decide)) h4
 have h6 := lex_fmt r.l h.l (d := 32) (s := [61, 62] ++ 32 :: (fmtF r.r ++ e :: t)) (.inl (by decide)) h5
 have h7 := Lex.app (s1 := [32]) (w1 := []) (Lex.sp (by decide)) h6
 have h8 := Lex.app (s1 := [58]) (w1 := [[58]]) (Lex.pn (by decide)) h7
 obtain ⟨n1, n2⟩ := name_ok h.n
 have h9 := Lex.word (w := kx r.name) (d := 58) (s := [32] ++ (fmtF r.l ++ 32 :: ([61, 62] ++ 32 :: (fmtF r.r ++ e :: t)))) n1 n2 (.inr (by decide)) h8
 have h10 := Lex.app (s1 := [32]) (w1 := []) (Lex.sp (by decide)) h9
 have h11 := Lex.word (w := [114, 117, 108, 101]) (d := 32) (s := kx r.name ++ 58 :: ([32] ++ (fmtF r.l ++ 32 :: ([61, 62] ++ 32 :: (fmtF r.r ++ e :: t))))) (by decide) (by simp) (.inl (by decide)) h10
 rw [← he] at h11
 have e1 : [114, 117, 108, 101] ++ 32 :: (kx r.name ++ 58 :: ([32] ++ (fmtF r.l ++ 32 :: ([61, 62] ++ 32 :: (fmtF r.r ++ (fmtCs r.conds true ++ 59 :: [10])))))) = fmtR r := by simp [fmtR]
 rw [e1] at h11
 have e2 : [114, 117, 108, 101] :: ([] ++ kx r.name :: ([[58]] ++ ([] ++ (wT r.l ++ ([] ++ [61, 62] :: ([] ++ (wT r.r ++ (wCs r.conds true ++ [[59]])))))))) = wR r := by simp [wR]
 rw [e2] at h11
 exact h11
end Go.Proofs.Ytblkgjdhaibhgaa
namespace Go.Proofs.Ytblkgjdhaibhgaa
open Go.RowKit
theorem digF_sn (l : Bs) (c : UInt8) (a : Nat) : digF (l ++ [c]) a = 10 * digF l a + (c.toNat - 48) := by simp [digF]
theorem dig_dec : ∀ (f n : Nat), n < 10 ^ (f + 1) → digF (decG (f + 1) n) 0 = n
 | 0, n, h => by
  have h : n < 10 := by simpa using h
  rw [decG_lt 0 h]
  show 10 * 0 + ((UInt8.ofNat (48 + n)).toNat - 48) = n
  rw [(dg_of h).2]; omega
 | f + 1, n, h => by
  by_cases hn : n < 10
  ·
   rw [decG_lt _ hn]
   show 10 * 0 + ((UInt8.ofNat (48 + n)).toNat - 48) = n
   rw [(dg_of hn).2]; omega
  ·
   rw [decG_ge _ hn, digF_sn, dig_dec f (n / 10) (by rw [Nat.div_lt_iff_lt_mul (by decide)]; rw [Nat.pow_succ] at h; exact h), (dg_of (Nat.mod_lt _ (by decide))).2]
   omega
theorem dec_head : ∀ (f n : Nat), 0 < n → n < 10 ^ (f + 1) → ∃ c l, decG (f + 1) n = c :: l ∧ c ≠ 48
 | 0, n, h0, h => by
  have h : n < 10 := by simpa using h
  rw [decG_lt 0 h]
  refine ⟨_, [], rfl, fun q => ?_⟩
  have := congrArg UInt8.toNat q
  rw [(dg_of h).2] at this
  have e : (48 : UInt8).toNat = 48 := rfl
  omega
 | f + 1, n, h0, h => by
  by_cases hn : n < 10
  ·
   rw [decG_lt _ hn]
   refine ⟨_, [], rfl, fun q => ?_⟩
   have := congrArg UInt8.toNat q
   rw [(dg_of hn).2] at this
   have e : (48 : UInt8).toNat = 48 := rfl
   omega
  ·
   obtain ⟨c, l, e, hc⟩ := dec_head f (n / 10) (by omega) (by rw [Nat.div_lt_iff_lt_mul (by decide)]; rw [Nat.pow_succ] at h; exact h)
   rw [decG_ge _ hn, e]
   exact ⟨c, l ++ _, rfl, hc⟩
theorem dec_len : ∀ (k f n : Nat), n < 10 ^ (k + 1) → (decG f n).length ≤ k + 1
 | k, 0, n, _ => by simp [decG]
 | 0, f + 1, n, h => by rw [decG_lt f (by simpa using h)]; simp
 | k + 1, f + 1, n, h => by
  by_cases hn : n < 10
  ·
   rw [decG_lt f hn]; simp
  ·
   rw [decG_ge f hn, List.length_append]
   have := dec_len k f (n / 10) (by rw [Nat.div_lt_iff_lt_mul (by decide)]; rw [Nat.pow_succ] at h; exact h)
   simp; omega
theorem decF_text {n : Int} (h : I64 n) : decF (textF n) = some n := by
 have hb : n.natAbs < 10 ^ 19 := by unfold I64 at h; omega
 have hlen : (decD n.natAbs).length ≤ 19 := dec_len 18 20 _ hb
 have hdig : digF (decD n.natAbs) 0 = n.natAbs := dig_dec 19 _ (by omega)
 have hall : (decD n.natAbs).all isDg = true := List.all_eq_true.2 (decG_dg 20 _)
 have hne : 1 ≤ (decD n.natAbs).length := List.length_pos_iff.2 (decD_ne _)
 unfold textF
 by_cases hn : n < 0
 ·
  rw [if_pos hn]
  obtain ⟨c, l, e, hc⟩ := dec_head 19 n.natAbs (by omega) (by omega)
  have e : decD n.natAbs = c :: l := e
  have hneg : decide ((45 :: decD n.natAbs).head? = some (45 : UInt8)) = true := by simp
  unfold decF
  dsimp only
  rw [hneg]
  simp only [if_true, List.tail_cons]
  rw [if_neg (by rw [e]; simp only [List.head?_cons, Option.some.injEq]; rw [← e]; intro q; rcases q with q | q | q; omega; omega; exact hc q.1), hall]
  simp only [if_true, hdig]
  rw [if_neg (by unfold I64 at h; omega)]
  congr 1
  omega
 ·
  rw [if_neg hn]
  have hneg : decide ((decD n.natAbs).head? = some (45 : UInt8)) = false := by
   apply decide_eq_false
   intro q
   cases hd : decD n.natAbs with
   | nil => exact decD_ne _ hd
   | cons c l =>
    rw [hd] at q
    simp only [List.head?_cons, Option.some.injEq] at q
    have := decG_dg 20 n.natAbs c (by show c ∈ decD n.natAbs; rw [hd]; exact List.mem_cons_self)
    rw [q] at this
    exact absurd this (by decide)
  unfold decF
  dsimp only
  rw [hneg]
  simp only [Bool.false_eq_true, if_false]
  have h48 : ¬ ((decD n.natAbs).head? = some (48 : UInt8) ∧ ((decD n.natAbs).length > 1 ∨ False)) := by
   rintro ⟨q1, q2⟩
   by_cases h0 : n.natAbs = 0
   ·
    rw [h0] at q2
    have : (decD 0).length = 1 := rfl
    rcases q2 with q2 | q2
    ·
     omega
    ·
     exact q2
   ·
    obtain ⟨c, l, e, hc⟩ := dec_head 19 n.natAbs (by omega) (by omega)
    have e : decD n.natAbs = c :: l := e
    rw [e] at q1
    simp only [List.head?_cons, Option.some.injEq] at q1
    exact hc q1
  rw [if_neg (by intro q; rcases q with q | q | q; omega; omega; exact h48 q), hall]
  simp only [if_true, hdig]
  rw [if_neg (by unfold I64 at h; omega)]
  congr 1
  omega
def nm7 (m : Nat) : Bs := (List.range m).map fun i => UInt8.ofNat (97 + i)
def ni7 (m : Nat) : Bs := (List.range m).map fun i => UInt8.ofNat (107 + i)
theorem look_v : ∀ m : Fin 7, ∀ v : Fin 7, ∀ left : Bool, (1 ≤ v.val ∧ v.val ≤ m.val → lookF (nm7 m) (UInt8.ofNat (96 + v)) left = (v.val, nm7 m)) ∧ (v.val = m.val + 1 → lookF (nm7 m) (UInt8.ofNat (96 + v)) true = (v.val, nm7 (m + 1))) := by decide +kernel
theorem look_i : ∀ m : Fin 7, ∀ v : Fin 7, ∀ left : Bool, (1 ≤ v.val ∧ v.val ≤ m.val → lookF (ni7 m) (UInt8.ofNat (106 + v)) left = (v.val, ni7 m)) ∧ (v.val = m.val + 1 → lookF (ni7 m) (UInt8.ofNat (106 + v)) true = (v.val, ni7 (m + 1))) := by decide +kernel
theorem vn_parts : ∀ v : Fin 7, 1 ≤ v.val → decF [63, UInt8.ofNat (96 + v)] = none ∧ isLw (UInt8.ofNat (96 + v)) = true := by decide +kernel
theorem in_parts : ∀ v : Fin 7, 1 ≤ v.val → decF [36, UInt8.ofNat (106 + v)] = none ∧ decF [UInt8.ofNat (106 + v)] = none ∧ isLw (UInt8.ofNat (106 + v)) = true := by decide +kernel
theorem op_parts : ∀ i : Fin 28, opF (nameL[i.val]'i.isLt) = some (4 + i.val) ∧ (nameL[i.val]'i.isLt).all (fun c => decide (c.toNat ≠ 46)) = true := by decide +kernel
theorem cond_parts : ∀ i : Fin 6, findL condL (condL[i.val]'i.isLt) 0 = some i.val := by decide +kernel
end Go.Proofs.Ytblkgjdhaibhgaa
namespace Go.Proofs.Ytblkgjdhaibhgaa
open Go.RowKit
def cnI (iv : Int) (n : Nat) : Option Nat := if 0 < iv then (if iv ≤ n then some n else if iv = n + 1 then some (n + 1) else none) else some n
mutual
def cn : Pt → Nat → Nat → Option (Nat × Nat)
 | .mk v _ _ iv ks, m, n =>
  if 0 < v then (if v ≤ m then some (m, n) else if v = m + 1 then some (m + 1, n) else none)
  else match cnI iv n with
   | none => none
   | some n2 => cnL ks m n2
def cnL : List Pt → Nat → Nat → Option (Nat × Nat)
 | [], m, n => some (m, n)
 | k :: ks, m, n => match cn k m n with
  | none => none
  | some s => cnL ks s.1 s.2
end
theorem cnI_mono {iv : Int} {n n2 : Nat} (h : cnI iv n = some n2) : n ≤ n2 := by
 unfold cnI at h
 split at h
 ·
  split at h
  ·
   injection h with h; omega
  ·
   split at h
   ·
    injection h with h; omega
   ·
    cases h
 ·
  injection h with h; omega
mutual
theorem cn_mono : ∀ (p : Pt) {m n m' n' : Nat}, cn p m n = some (m', n') → m ≤ m' ∧ n ≤ n'
 | .mk v op imm iv ks, m, n, m', n', h => by
  unfold cn at h
  split at h
  ·
   split at h
   ·
    injection h with h; injection h with h1 h2; omega
   ·
    split at h
    ·
     injection h with h; injection h with h1 h2; omega
    ·
     cases h
  ·
   cases hc : cnI iv n with
   | none => rw [hc] at h; cases h
   | some n2 =>
    rw [hc] at h
    have := cnI_mono hc
    have := cnL_mono ks h
    omega
theorem cnL_mono : ∀ (ks : List Pt) {m n m' n' : Nat}, cnL ks m n = some (m', n') → m ≤ m' ∧ n ≤ n'
 | [], m, n, m', n', h => by unfold cnL at h; injection h with h; injection h with h1 h2; omega
 | k :: ks, m, n, m', n', h => by
  unfold cnL at h
  cases hc : cn k m n with
  | none => rw [hc] at h; cases h
  | some s =>
   obtain ⟨a, b⟩ := s
   rw [hc] at h
   have := cn_mono k hc
   have := cnL_mono ks h
   omega
end
def Ws (T : List (Bs × Nat)) (k : Nat) (ws : List Bs) : Prop := ∀ j (h : j < ws.length), tkF T (k + j) = some ws[j]
section
variable {T : List (Bs × Nat)} {fin : Nat}
theorem Ws.cons {k : Nat} {a : Bs} {b : List Bs} (h : Ws T k (a :: b)) : tkF T k = some a ∧ Ws T (k + 1) b := by
 refine ⟨h 0 (Nat.zero_lt_succ _), fun j hj => ?_⟩
 have := h (j + 1) (Nat.succ_lt_succ hj)
 rw [show k + 1 + j = k + (j + 1) by omega]
 exact this
theorem Ws.app {k : Nat} {a b : List Bs} (h : Ws T k (a ++ b)) : Ws T k a ∧ Ws T (k + a.length) b := by
 refine ⟨fun j hj => ?_, fun j hj => ?_⟩
 ·
  have := h j (by rw [List.length_append]; omega)
  rw [List.getElem_append_left hj] at this
  exact this
 ·
  have := h (a.length + j) (by rw [List.length_append]; omega)
  rw [List.getElem_append_right (by omega)] at this
  rw [show k + a.length + j = k + (a.length + j) by omega, this]
  simp
theorem wOk_head {w : Bs} (h : wOk w = true) (hn : w ≠ []) : isPn (w.headD 0) = false ∧ w ≠ [40] := by
 cases w with
 | nil => exact absurd rfl hn
 | cons c l =>
  simp only [wOk, List.all_cons, Bool.and_eq_true] at h
  obtain ⟨p1, _⟩ := wordCh_parts h.1.1
  refine ⟨p1, fun q => ?_⟩
  injection q with q _
  subst q
  exact absurd p1 (by decide)
theorem wrd_of {α : Type} {f : Bs → PS → Option (α × PS)} {x y : PS} {a : α} {s : Bs} (ht : tkF T x.i = some s) (hw : wOk s = true) (hn : s ≠ []) (hf : f s x = some (a, y)) : wrdF T fin f x = .ok (a, ⟨x.i + 1, y.vs, y.ms⟩) := by
 unfold wrdF
 rw [ht]
 dsimp only
 rw [if_neg (by rw [(wOk_head hw hn).1]; decide), hf]
theorem fin7 {v : Int} (h0 : 0 < v) (h1 : v ≤ 6) : ∃ u : Fin 7, v = (u.val : Int) ∧ 1 ≤ u.val := ⟨⟨v.toNat, by omega⟩, by show v = (v.toNat : Int); omega, by show 1 ≤ v.toNat; omega⟩
theorem look_vn {m m' : Nat} {v : Int} {left : Bool} (h0 : 0 < v) (h6 : v ≤ 6) (hm : m' ≤ 6) (hc : (if v ≤ m then some m else if v = m + 1 then some (m + 1) else none) = some m') (hl : left = false → m' = m) : lookF (nm7 m) (UInt8.ofNat (96 + v.toNat)) left = (v.toNat, nm7 m') := by
 obtain ⟨u, hu, hu1⟩ := fin7 h0 h6
 have ev : v.toNat = u.val := by omega
 rw [ev]
 split at hc
 ·
  injection hc with hc
  subst hc
  exact (look_v ⟨m, by omega⟩ u left).1 ⟨hu1, by show u.val ≤ m; omega⟩
 ·
  split at hc
  ·
   injection hc with hc
   subst hc
   cases left with
   | false => have := hl rfl; omega
   | true => exact (look_v ⟨m, by omega⟩ u true).2 (by show u.val = m + 1; omega)
  ·
   cases hc
theorem look_in {m m' : Nat} {v : Int} {left : Bool} (h0 : 0 < v) (h6 : v ≤ 6) (hm : m' ≤ 6) (hc : cnI v m = some m') (hl : left = false → m' = m) : lookF (ni7 m) (UInt8.ofNat (106 + v.toNat)) left = (v.toNat, ni7 m') := by
 obtain ⟨u, hu, hu1⟩ := fin7 h0 h6
 have ev : v.toNat = u.val := by omega
 rw [ev]
 unfold cnI at hc
 rw [if_pos h0] at hc
 split at hc
 ·
  injection hc with hc
  subst hc
  exact (look_i ⟨m, by omega⟩ u left).1 ⟨hu1, by show u.val ≤ m; omega⟩
 ·
  split at hc
  ·
   injection hc with hc
   subst hc
   cases left with
   | false => have := hl rfl; omega
   | true => exact (look_i ⟨m, by omega⟩ u true).2 (by show u.val = m + 1; omega)
  ·
   cases hc
theorem vn_dec {v : Int} (h0 : 0 < v) (h6 : v ≤ 6) : decF (vnF v) = none ∧ isLw (UInt8.ofNat (96 + v.toNat)) = true := by
 obtain ⟨u, hu, hu1⟩ := fin7 h0 h6
 have := vn_parts u hu1
 unfold vnF
 rw [show v.toNat = u.val by omega]
 exact this
theorem in_dec {v : Int} (h0 : 0 < v) (h6 : v ≤ 6) : decF (36 :: inF v) = none ∧ decF (inF v) = none ∧ isLw (UInt8.ofNat (106 + v.toNat)) = true := by
 obtain ⟨u, hu, hu1⟩ := fin7 h0 h6
 have := in_parts u hu1
 unfold inF
 rw [show v.toNat = u.val by omega]
 exact this
theorem varF2 (a b : UInt8) (c : Nat) (l : Bs) (left : Bool) : varF [a, b] c l left = if a.toNat = c ∧ isLw b = true then lookF l b left else (0, l) := rfl
theorem varF_vn {v : Int} (h0 : 0 < v) (h6 : v ≤ 6) (l : Bs) (left : Bool) : varF (vnF v) 63 l left = lookF l (UInt8.ofNat (96 + v.toNat)) left := by
 unfold vnF
 rw [varF2, if_pos ⟨rfl, (vn_dec h0 h6).2⟩]
theorem varF_in {v : Int} (h0 : 0 < v) (h6 : v ≤ 6) (l : Bs) (left : Bool) : varF (36 :: inF v) 63 l left = (0, l) ∧ varF (36 :: inF v) 36 l left = lookF l (UInt8.ofNat (106 + v.toNat)) left := by
 unfold inF
 refine ⟨?_, ?_⟩
 ·
  rw [varF2, if_neg (fun q => absurd q.1 (by decide))]
 ·
  rw [varF2, if_pos ⟨rfl, (in_dec h0 h6).2.2⟩]
theorem op_nm {op : Int} (h0 : 4 ≤ op) (h1 : op < 32) : opF (opNm op) = some op.toNat ∧ (opNm op).all (fun c => decide (c.toNat ≠ 46)) = true := by
 obtain ⟨i, hi⟩ : ∃ i : Fin 28, op = 4 + (i.val : Int) := ⟨⟨(op - 4).toNat, by omega⟩, by show op = 4 + ((op - 4).toNat : Int); omega⟩
 have := op_parts i
 unfold opNm
 rw [show (op - 4).toNat = i.val by omega, show op.toNat = 4 + i.val by omega, List.getD, List.getElem?_eq_getElem i.isLt, Option.getD_some]
 exact this
theorem take_nm {a b : Bs} (ha : a.all (fun c => decide (c.toNat ≠ 46)) = true) (hb : b = [] ∨ ∃ t, b = 46 :: t) : (a ++ b).takeWhile (fun c => decide (c.toNat ≠ 46)) = a := by
 rw [List.takeWhile_append_of_pos (fun x hx => List.all_eq_true.1 ha x hx)]
 rcases hb with rfl | ⟨t, rfl⟩
 ·
  simp
 ·
  rw [List.takeWhile_cons_of_neg (by decide), List.append_nil]
theorem oper_of {left : Bool} {op imm iv : Int} {ks : List Pt} {i m n n' : Nat} (h : Fm6 (.mk 0 op imm iv ks)) (ho : 4 ≤ op) (hc : cnI iv n = some n') (hn : n' ≤ 6) (hl : left = false → n' = n) : operF left (opNm op ++ sfx op imm iv) ⟨i, nm7 m, ni7 n⟩ = some (.mk 0 op imm iv [], ⟨i, nm7 m, ni7 n'⟩) := by
 cases h with
 | var _ _ => omega
 | cst _ => omega
 | cim _ _ => omega
 | app h1 h2 h3 h4 h5 h6 h7 h8 h9 =>
  obtain ⟨o1, o2⟩ := op_nm h1 h2
  have hs : sfx op imm iv = [] ∨ ∃ t, sfx op imm iv = 46 :: t := by
   unfold sfx
   split
   ·
    exact .inr ⟨_, rfl⟩
   ·
    split
    ·
     exact .inr ⟨_, rfl⟩
    ·
     exact .inl rfl
  unfold operF
  dsimp only
  rw [take_nm o2 hs, o1]
  dsimp only
  rw [show ((op.toNat : Nat) : Int) = op by omega, h3, List.drop_left]
  have hdec : decide ((opNm op).length < (opNm op ++ sfx op imm iv).length) = !(sfx op imm iv).isEmpty := by
   rw [List.length_append]
   cases sfx op imm iv <;> simp
  rw [hdec]
  cases him : immOp op with
  | false =>
   obtain ⟨e1, e2⟩ := h8 him
   subst e1 e2
   have e3 : sfx op 0 0 = [] := by unfold sfx; rw [if_neg (by decide), if_neg (by rw [him]; decide)]
   rw [e3]
   have e4 : n' = n := by unfold cnI at hc; rw [if_neg (by decide)] at hc; injection hc with hc; exact hc.symm
   subst e4
   simp
  | true =>
   by_cases hv : 0 < iv
   ·
    have e3 : sfx op imm iv = 46 :: inF iv := by unfold sfx; rw [if_pos hv]
    have e4 := h7 (by omega)
    subst e4
    obtain ⟨_, d2, d3⟩ := in_dec hv h6
    have d4 := look_in (left := left) hv h6 hn hc hl
    rw [e3]
    simp only [List.isEmpty_cons, List.tail_cons, d2]
    rw [show inF iv = [UInt8.ofNat (106 + iv.toNat)] from rfl]
    simp only [d3, d4]
    rw [if_neg (by simp), if_neg (by simp), if_pos ⟨trivial, by omega⟩]
    rw [show ((iv.toNat : Nat) : Int) = iv by omega]
   ·
    have e3 : sfx op imm iv = 46 :: textF imm := by unfold sfx; rw [if_neg hv, if_pos him]
    have e4 : iv = 0 := by omega
    subst e4
    have e5 : n' = n := by unfold cnI at hc; rw [if_neg (by decide)] at hc; injection hc with hc; exact hc.symm
    subst e5
    rw [e3]
    simp only [List.isEmpty_cons, List.tail_cons, decF_text h4]
    rw [if_neg (by simp), if_neg (by simp)]
theorem wOk_opw {op imm iv : Int} (h1 : 4 ≤ op) (h2 : op < 32) (h6 : iv ≤ 6) : wOk (opNm op ++ sfx op imm iv) = true ∧ opNm op ++ sfx op imm iv ≠ [] := by
 obtain ⟨o1, o2⟩ := opNm_ok h1 h2
 exact ⟨wOk_app o1 (wOk_sfx h6), fun q => o2 (List.append_eq_nil_iff.1 q).1⟩
mutual
theorem rt_term (left : Bool) : ∀ (p : Pt), Fm6 p → ∀ {m n m' n' k f : Nat}, cn p m n = some (m', n') → m' ≤ 6 → n' ≤ 6 → (left = false → m' = m ∧ n' = n) → Ws T k (wT p) → p.size ≤ f → termF T fin left f ⟨k, nm7 m, ni7 n⟩ = .ok (p, ⟨k + (wT p).length, nm7 m', ni7 n'⟩)
 | .mk v op imm iv ks, h, m, n, m', n', k, f, hc, hm, hn, hl, hw, hf => by
  have hsz : (Pt.mk v op imm iv ks).size = 1 + Pt.sizeL ks := by rw [Pt.size_eq]; rfl
  rw [hsz] at hf
  obtain ⟨f, rfl⟩ : ∃ g, f = g + 1 := ⟨f - 1, by omega⟩
  rw [termF_succ]
  have h0 := h
  cases h with
  | var h1 h2 =>
   have ew : wT (.mk v 0 0 0 []) = [vnF v] := by rw [wT, if_pos h1]
   rw [ew] at hw ⊢
   have ht := hw.cons.1
   have hwo := wOk_vn h1 h2
   have hne : vnF v ≠ [] := by simp [vnF]
   unfold cn at hc
   rw [if_pos h1] at hc
   have hcv : (if v ≤ m then some m else if v = m + 1 then some (m + 1) else none) = some m' ∧ n' = n := by
    split at hc
    ·
     rename_i q; injection hc with hc; injection hc with h3 h4; rw [if_pos q, h3]; exact ⟨rfl, h4.symm⟩
    ·
     rename_i q
     split at hc
     ·
      rename_i q2; injection hc with hc; injection hc with h3 h4; rw [if_neg q, if_pos q2, h3]; exact ⟨rfl, h4.symm⟩
     ·
      cases hc
   obtain ⟨hcv, rfl⟩ := hcv
   rw [if_neg (by show ¬ tkF T k = _; rw [ht]; intro q; injection q with q; exact (wOk_head hwo hne).2 q)]
   have hlk := look_vn (left := left) h1 h2 hm hcv (fun q => (hl q).1)
   have ha : atomF left (vnF v) ⟨k, nm7 m, ni7 n'⟩ = some (.mk v 0 0 0 [], ⟨k, nm7 m', ni7 n'⟩) := by
    unfold atomF
    rw [(vn_dec h1 h2).1]
    dsimp only
    rw [varF_vn h1 h2, hlk]
    dsimp only
    rw [if_pos (by omega), show ((v.toNat : Nat) : Int) = v by omega]
   exact wrd_of (x := ⟨k, nm7 m, ni7 n'⟩) ht hwo hne ha
  | cst h1 =>
   have ew : wT (.mk 0 1 imm 0 []) = [textF imm] := by rw [wT]; simp
   rw [ew] at hw ⊢
   have ht := hw.cons.1
   have hwo := wOk_text imm
   have hne := textF_ne imm
   have hc2 : m' = m ∧ n' = n := by
    simp [cn, cnI, cnL] at hc
    omega
   obtain ⟨rfl, rfl⟩ := hc2
   rw [if_neg (by show ¬ tkF T k = _; rw [ht]; intro q; injection q with q; exact (wOk_head hwo hne).2 q)]
   have ha : atomF left (textF imm) ⟨k, nm7 m', ni7 n'⟩ = some (.mk 0 1 imm 0 [], ⟨k, nm7 m', ni7 n'⟩) := by
    unfold atomF
    rw [decF_text h1]
   exact wrd_of (x := ⟨k, nm7 m', ni7 n'⟩) ht hwo hne ha
  | cim h1 h2 =>
   have ew : wT (.mk 0 1 0 iv []) = [36 :: inF iv] := by rw [wT]; simp [h1]
   rw [ew] at hw ⊢
   have ht := hw.cons.1
   have hwo : wOk (36 :: inF iv) = true := wOk_app (a := [36]) (by decide) (wOk_in h1 h2)
   have hne : 36 :: inF iv ≠ [] := by simp
   have hc2 : cnI iv n = some n' ∧ m' = m := by
    unfold cn at hc
    rw [if_neg (by decide)] at hc
    cases hq : cnI iv n with
    | none => rw [hq] at hc; cases hc
    | some n2 =>
     rw [hq] at hc
     simp only [cnL] at hc
     injection hc with hc; injection hc with h3 h4
     rw [h4]; exact ⟨rfl, h3.symm⟩
   obtain ⟨hcv, rfl⟩ := hc2
   rw [if_neg (by show ¬ tkF T k = _; rw [ht]; intro q; injection q with q; exact (wOk_head hwo hne).2 q)]
   have hlk := look_in (left := left) h1 h2 hn hcv (fun q => (hl q).2)
   have ha : atomF left (36 :: inF iv) ⟨k, nm7 m', ni7 n⟩ = some (.mk 0 1 0 iv [], ⟨k, nm7 m', ni7 n'⟩) := by
    unfold atomF
    rw [(in_dec h1 h2).1]
    dsimp only
    rw [(varF_in h1 h2 _ _).1, (varF_in h1 h2 _ _).2, hlk]
    dsimp only
    rw [if_neg (by decide), if_pos (by omega), show ((iv.toNat : Nat) : Int) = iv by omega]
   exact wrd_of (x := ⟨k, nm7 m', ni7 n⟩) ht hwo hne ha
  | app h1 h2 h3 h4 h5 h6 h7 h8 h9 =>
   have q1 : ¬ op = 1 := by omega
   have ew : wT (.mk 0 op imm iv ks) = [40] :: (opNm op ++ sfx op imm iv) :: (wTL ks ++ [[41]]) := by rw [wT]; simp [q1]
   rw [ew] at hw ⊢
   obtain ⟨t1, hw⟩ := hw.cons
   obtain ⟨t2, hw⟩ := hw.cons
   obtain ⟨w1, w2⟩ := hw.app
   have t3 := w2.cons.1
   unfold cn at hc
   rw [if_neg (by decide)] at hc
   cases hq : cnI iv n with
   | none => rw [hq] at hc; cases hc
   | some n2 =>
    rw [hq] at hc
    have mo := cnL_mono ks hc
    have m2 := cnI_mono hq
    rw [if_pos t1]
    obtain ⟨o1, o2⟩ := wOk_opw (imm := imm) h1 h2 h6
    have hop := oper_of (left := left) (i := k + 1) (m := m) h0 h1 hq (by omega) (fun q => by have := hl q; omega)
    have e1 := wrd_of (fin := fin) (x := ⟨k + 1, nm7 m, ni7 n⟩) t2 o1 o2 hop
    have e2 := rt_kids left ks h9 (f := f) hc hm hn (fun q => by have := hl q; omega) w1 (by omega)
    unfold appF
    rw [show ({ (⟨k, nm7 m, ni7 n⟩ : PS) with i := k + 1 } : PS) = ⟨k + 1, nm7 m, ni7 n⟩ from rfl, e1]
    dsimp only [Pt.op, Pt.imm, Pt.iv]
    rw [h3, Option.getD_some, e2]
    dsimp only
    have e3 : expF T fin [41] ⟨k + 1 + 1 + (wTL ks).length, nm7 m', ni7 n'⟩ = .ok ⟨k + 1 + 1 + (wTL ks).length + 1, nm7 m', ni7 n'⟩ := by
     unfold expF
     dsimp only
     rw [if_pos t3]
    rw [e3]
    dsimp only
    congr 2
    simp only [List.length_cons, List.length_append, List.length_nil]
    congr 1
    omega
theorem rt_kids (left : Bool) : ∀ (ks : List Pt), (∀ q ∈ ks, Fm6 q) → ∀ {m n m' n' k f : Nat}, cnL ks m n = some (m', n') → m' ≤ 6 → n' ≤ 6 → (left = false → m' = m ∧ n' = n) → Ws T k (wTL ks) → Pt.sizeL ks ≤ f → kidsF (termF T fin left f) ks.length ⟨k, nm7 m, ni7 n⟩ = .ok (ks, ⟨k + (wTL ks).length, nm7 m', ni7 n'⟩)
 | [], _, m, n, m', n', k, f, hc, _, _, _, _, _ => by
  unfold cnL at hc
  injection hc with hc; injection hc with h1 h2
  subst h1 h2
  simp [kidsF, wTL]
 | p :: ks, h, m, n, m', n', k, f, hc, hm, hn, hl, hw, hf => by
  unfold cnL at hc
  cases hq : cn p m n with
  | none => rw [hq] at hc; cases hc
  | some s =>
   obtain ⟨a, b⟩ := s
   rw [hq] at hc
   dsimp only at hc
   have m1 := cn_mono p hq
   have m2 := cnL_mono ks hc
   unfold wTL at hw ⊢
   obtain ⟨w1, w2⟩ := hw.app
   simp only [Pt.sizeL] at hf
   have e1 := rt_term left p (h p List.mem_cons_self) (f := f) hq (by omega) (by omega) (fun q => by have := hl q; omega) w1 (by omega)
   have e2 := rt_kids left ks (fun q hq => h q (List.mem_cons_of_mem _ hq)) (f := f) hc hm hn (fun q => by have := hl q; omega) w2 (by omega)
   rw [List.length_cons, kidsF, e1]
   dsimp only
   rw [e2]
   dsimp only
   rw [List.length_append, Nat.add_assoc]
end
end
end Go.Proofs.Ytblkgjdhaibhgaa
namespace Go.Proofs.Ytblkgjdhaibhgaa
open Go.RowKit
structure CdIn (m n : Nat) (c : Cd) : Prop where
 a1 : c.kind ≤ 5 → c.a ≤ m
 a2 : c.kind = 6 → c.a ≤ n
 b1 : c.kind = 4 → c.b ≤ m
 b2 : 5 ≤ c.kind → c.b ≤ n
section
variable {T : List (Bs × Nat)} {fin : Nat}
theorem vn_ne (a : Int) : vnF a ≠ [] := by simp [vnF]
theorem in_ne (a : Int) : inF a ≠ [] := by simp [inF]
theorem pvar_rt {k m : Nat} {a : Int} {ms : Bs} (ht : tkF T k = some (vnF a)) (h0 : 0 < a) (h1 : a ≤ m) (hm : m ≤ 6) : pvarF T fin ⟨k, nm7 m, ms⟩ = .ok (a.toNat, ⟨k + 1, nm7 m, ms⟩) := by
 have hl := look_vn (m := m) (m' := m) (left := false) h0 (by omega) hm (by rw [if_pos h1]) (fun _ => rfl)
 have h6 : a ≤ 6 := by omega
 unfold pvarF
 refine wrd_of (x := ⟨k, nm7 m, ms⟩) (y := ⟨k, nm7 m, ms⟩) ht (wOk_vn h0 h6) (vn_ne a) ?_
 rw [varF_vn h0 h6, hl]
 dsimp only
 rw [if_pos (by omega)]
theorem ivar_rt {k n : Nat} {a : Int} {vs : Bs} (ht : tkF T k = some (inF a)) (h0 : 0 < a) (h1 : a ≤ n) (hn : n ≤ 6) : ivarF T fin ⟨k, vs, ni7 n⟩ = .ok (a.toNat, ⟨k + 1, vs, ni7 n⟩) := by
 have hl := look_in (m := n) (m' := n) (left := false) h0 (by omega) hn (by unfold cnI; rw [if_pos h0, if_pos h1]) (fun _ => rfl)
 have h6 : a ≤ 6 := by omega
 unfold ivarF
 refine wrd_of (x := ⟨k, vs, ni7 n⟩) (y := ⟨k, vs, ni7 n⟩) ht (wOk_in h0 h6) (in_ne a) ?_
 unfold inF
 dsimp only
 rw [hl]
 dsimp only
 rw [if_pos ⟨(in_dec h0 h6).2.2, by omega⟩]
theorem numb_rt {k : Nat} {n : Int} {vs ms : Bs} (ht : tkF T k = some (textF n)) (h : I64 n) : numbF T fin ⟨k, vs, ms⟩ = .ok (n, ⟨k + 1, vs, ms⟩) := by
 unfold numbF
 refine wrd_of (x := ⟨k, vs, ms⟩) (y := ⟨k, vs, ms⟩) ht (wOk_text n) (textF_ne n) ?_
 rw [decF_text h]
 rfl
theorem kind_rt {k : Nat} {d : Int} {vs ms : Bs} (ht : tkF T k = some (condNm d)) (h0 : 1 ≤ d) (h1 : d ≤ 6) : kindF T fin ⟨k, vs, ms⟩ = .ok (d.toNat, ⟨k + 1, vs, ms⟩) := by
 unfold kindF
 refine wrd_of (x := ⟨k, vs, ms⟩) (y := ⟨k, vs, ms⟩) ht (condNm_ok h0 h1).1 (condNm_ok h0 h1).2 ?_
 obtain ⟨i, hi⟩ : ∃ i : Fin 6, d = 1 + (i.val : Int) := ⟨⟨(d - 1).toNat, by omega⟩, by show d = 1 + ((d - 1).toNat : Int); omega⟩
 have := cond_parts i
 unfold condNm
 rw [show (d - 1).toNat = i.val by omega, show d.toNat = i.val + 1 by omega, List.getD, List.getElem?_eq_getElem i.isLt, Option.getD_some, this]
 rfl
theorem cond_rt {c : Cd} (h : Cd6 c) {k m n : Nat} (hi : CdIn m n c) (hm : m ≤ 6) (hn : n ≤ 6) (hw : Ws T k (wC c)) : pcondF T fin ⟨k, nm7 m, ni7 n⟩ = .ok (c, ⟨k + (wC c).length, nm7 m, ni7 n⟩) := by
 obtain ⟨kd, a, b, nn⟩ := c
 have k0 := h.k0
 have k1 := h.k1
 have a0 := h.a0
 have b0 := h.b0
 have b1 := h.b1
 have n0 := h.n0
 have n1 := h.n1
 have i1 := hi.a1
 have i2 := hi.a2
 have i3 := hi.b1
 have i4 := hi.b2
 dsimp only at k0 k1 a0 b0 b1 n0 n1 i1 i2 i3 i4
 obtain ⟨t1, hw⟩ := hw.cons
 dsimp only at t1 hw
 have e1 := kind_rt (fin := fin) (vs := nm7 m) (ms := ni7 n) t1 k0 k1
 unfold pcondF
 rw [e1]
 dsimp only
 have hk : kd = 1 ∨ kd = 2 ∨ kd = 3 ∨ kd = 4 ∨ kd = 5 ∨ kd = 6 := by omega
 rcases hk with rfl | rfl | rfl | rfl | rfl | rfl
 ·
  have t2 := hw.cons.1
  have e2 := pvar_rt (fin := fin) (ms := ni7 n) t2 a0 (i1 (by omega)) hm
  simp only [show ((1 : Int).toNat) = 1 from rfl, e2]
  have := b1 (by omega); have := n0 (by omega) (by omega)
  subst b nn
  simp [wC, Int.toNat_of_nonneg (Int.le_of_lt a0)]
 ·
  obtain ⟨t2, hw⟩ := hw.cons
  have t3 := hw.cons.1
  have e2 := pvar_rt (fin := fin) (ms := ni7 n) t2 a0 (i1 (by omega)) hm
  have e3 := numb_rt (fin := fin) (vs := nm7 m) (ms := ni7 n) t3 n1
  simp only [show ((2 : Int).toNat) = 2 from rfl, if_neg (show ¬ (2 : Nat) = 6 by decide), e2]
  rw [if_neg (by decide), if_pos (by decide), e3]
  dsimp only
  have := b1 (by omega)
  subst b
  simp [wC, Int.toNat_of_nonneg (Int.le_of_lt a0)]
 ·
  obtain ⟨t2, hw⟩ := hw.cons
  have t3 := hw.cons.1
  have e2 := pvar_rt (fin := fin) (ms := ni7 n) t2 a0 (i1 (by omega)) hm
  have e3 := numb_rt (fin := fin) (vs := nm7 m) (ms := ni7 n) t3 n1
  simp only [show ((3 : Int).toNat) = 3 from rfl, if_neg (show ¬ (3 : Nat) = 6 by decide), e2]
  rw [if_neg (by decide), if_pos (by decide), e3]
  dsimp only
  have := b1 (by omega)
  subst b
  simp [wC, Int.toNat_of_nonneg (Int.le_of_lt a0)]
 ·
  obtain ⟨t2, hw⟩ := hw.cons
  have t3 := hw.cons.1
  have hb := b0 (by omega)
  have e2 := pvar_rt (fin := fin) (ms := ni7 n) t2 a0 (i1 (by omega)) hm
  have e3 := pvar_rt (fin := fin) (ms := ni7 n) t3 hb.1 (i3 (by omega)) hm
  simp only [show ((4 : Int).toNat) = 4 from rfl, if_neg (show ¬ (4 : Nat) = 6 by decide), e2]
  rw [if_neg (by decide), if_neg (by decide), e3]
  dsimp only
  have := n0 (by omega) (by omega)
  subst nn
  simp [wC, Int.toNat_of_nonneg (Int.le_of_lt a0), Int.toNat_of_nonneg (Int.le_of_lt hb.1)]
 ·
  obtain ⟨t2, hw⟩ := hw.cons
  have t3 := hw.cons.1
  have hb := b0 (by omega)
  have e2 := pvar_rt (fin := fin) (ms := ni7 n) t2 a0 (i1 (by omega)) hm
  have e3 := ivar_rt (fin := fin) (vs := nm7 m) t3 hb.1 (i4 (by omega)) hn
  simp only [show ((5 : Int).toNat) = 5 from rfl, if_neg (show ¬ (5 : Nat) = 6 by decide), e2]
  rw [if_neg (by decide), if_neg (by decide), if_neg (by decide), e3]
  dsimp only
  have := n0 (by omega) (by omega)
  subst nn
  simp [wC, Int.toNat_of_nonneg (Int.le_of_lt a0), Int.toNat_of_nonneg (Int.le_of_lt hb.1)]
 ·
  obtain ⟨t2, hw⟩ := hw.cons
  have t3 := hw.cons.1
  have hb := b0 (by omega)
  have e2 := ivar_rt (fin := fin) (vs := nm7 m) t2 a0 (i2 (by omega)) hn
  have e3 := ivar_rt (fin := fin) (vs := nm7 m) t3 hb.1 (i4 (by omega)) hn
  simp only [show ((6 : Int).toNat) = 6 from rfl, if_true, e2]
  rw [if_neg (by decide), if_neg (by decide), if_neg (by decide), e3]
  dsimp only
  have := n0 (by omega) (by omega)
  subst nn
  simp [wC, Int.toNat_of_nonneg (Int.le_of_lt a0), Int.toNat_of_nonneg (Int.le_of_lt hb.1)]
theorem conds_rt {m n : Nat} (hm : m ≤ 6) (hn : n ≤ 6) : ∀ (cs : List Cd) (k f : Nat), (∀ c ∈ cs, Cd6 c ∧ CdIn m n c) → Ws T k (wCs cs false) → ¬ tkF T (k + (wCs cs false).length) = some [44] → cs.length < f → condsF T fin f ⟨k, nm7 m, ni7 n⟩ = .ok (cs, ⟨k + (wCs cs false).length, nm7 m, ni7 n⟩)
 | [], k, f, _, _, hn44, hf => by
  obtain ⟨f, rfl⟩ : ∃ g, f = g + 1 := ⟨f - 1, by omega⟩
  simp only [wCs, List.length_nil, Nat.add_zero] at hn44
  rw [condsF, if_neg hn44]
  rfl
 | c :: cs, k, f, h, hw, hn44, hf => by
  obtain ⟨f, rfl⟩ : ∃ g, f = g + 1 := ⟨f - 1, by omega⟩
  obtain ⟨h1, h2⟩ := h c List.mem_cons_self
  have ew : wCs (c :: cs) false = [44] :: (wC c ++ wCs cs false) := by rw [wCs]; rfl
  rw [ew] at hw hn44 ⊢
  obtain ⟨t1, hw⟩ := hw.cons
  obtain ⟨w1, w2⟩ := hw.app
  have e1 := cond_rt (fin := fin) h1 h2 hm hn w1
  have e2 := conds_rt hm hn cs (k + 1 + (wC c).length) f (fun d hd => h d (List.mem_cons_of_mem _ hd)) w2 (by
   intro q; apply hn44; rw [← q]; congr 1; simp only [List.length_cons, List.length_append]; omega) (by simp at hf; omega)
  rw [condsF, if_pos t1]
  dsimp only
  rw [e1]
  dsimp only
  rw [e2]
  dsimp only
  congr 2
  simp only [List.length_cons, List.length_append]
  congr 1
  omega
theorem if_rt {m n : Nat} (hm : m ≤ 6) (hn : n ≤ 6) (cs : List Cd) (k f : Nat) (h : ∀ c ∈ cs, Cd6 c ∧ CdIn m n c) (hw : Ws T k (wCs cs true)) (hx : tkF T (k + (wCs cs true).length) = some [59]) (hf : cs.length < f) : ifF T fin f ⟨k, nm7 m, ni7 n⟩ = .ok (cs, ⟨k + (wCs cs true).length, nm7 m, ni7 n⟩) := by
 cases cs with
 | nil =>
  simp only [wCs, List.length_nil, Nat.add_zero] at hx
  unfold ifF
  rw [if_neg (by dsimp only; rw [hx]; decide)]
  rfl
 | cons c cs =>
  obtain ⟨h1, h2⟩ := h c List.mem_cons_self
  have ew : wCs (c :: cs) true = [105, 102] :: (wC c ++ wCs cs false) := by rw [wCs]; rfl
  rw [ew] at hw hx ⊢
  obtain ⟨t1, hw⟩ := hw.cons
  obtain ⟨w1, w2⟩ := hw.app
  have e1 := cond_rt (fin := fin) h1 h2 hm hn w1
  have e2 := conds_rt (fin := fin) hm hn cs (k + 1 + (wC c).length) f (fun d hd => h d (List.mem_cons_of_mem _ hd)) w2 (by
   rw [show k + 1 + (wC c).length + (wCs cs false).length = k + ([105, 102] :: (wC c ++ wCs cs false)).length by simp only [List.length_cons, List.length_append]; omega, hx]; decide) (by simp at hf; omega)
  unfold ifF
  rw [if_pos t1]
  dsimp only
  rw [e1]
  dsimp only
  rw [e2]
  dsimp only
  congr 2
  simp only [List.length_cons, List.length_append]
  congr 1
  omega
end
theorem wT_len : ∀ p : Pt, Fm6 p → p.size ≤ (wT p).length := by
 intro p
 induction p using Pt.ind with
 | h p ih =>
  intro h
  have hk : (∀ k ∈ p.kids, Fm6 k) → Pt.sizeL p.kids ≤ (wTL p.kids).length := fun hk => by
   have key : ∀ ks : List Pt, (∀ k ∈ ks, k.size ≤ (wT k).length) → Pt.sizeL ks ≤ (wTL ks).length := by
    intro ks
    induction ks with
    | nil => intro _; simp [Pt.sizeL]
    | cons k ks ihk =>
     intro hh
     have h1 := hh k List.mem_cons_self
     have h2 := ihk fun q hq => hh q (List.mem_cons_of_mem _ hq)
     simp only [Pt.sizeL, wTL, List.length_append]
     omega
   exact key _ fun k hq => ih k hq (hk k hq)
  rw [Pt.size_eq]
  cases h with
  | var h1 h2 => rw [wT, if_pos h1]; simp [Pt.sizeL, Pt.kids]
  | cst h1 => rw [wT]; simp [Pt.sizeL, Pt.kids]
  | cim h1 h2 => rw [wT]; simp [Pt.sizeL, Pt.kids]
  | app h1 h2 h3 h4 h5 h6 h7 h8 h9 =>
   have := hk h9
   rename_i op imm iv ks
   have q1 : ¬ op = 1 := by omega
   rw [wT, if_neg (by decide), if_neg q1]
   simp only [List.length_cons, List.length_append, List.length_nil]
   dsimp only [Pt.kids] at *
   omega
structure Rt (r : Rl) (m n : Nat) : Prop where
 t : Rt6 r
 vs : r.vars = (m : Int)
 is : r.imms = (n : Int)
 m6 : m ≤ 6
 n6 : n ≤ 6
 cl : cn r.l 0 0 = some (m, n)
 cr : cn r.r m n = some (m, n)
 ci : ∀ c ∈ r.conds, CdIn m n c
theorem wCs_len : ∀ (cs : List Cd) (b : Bool), cs.length ≤ (wCs cs b).length
 | [], b => by simp
 | c :: cs, b => by
  have := wCs_len cs false
  rw [wCs]
  simp only [List.length_cons, List.length_append]
  omega
theorem ws_all (ws : List Bs) : Ws (ws.map fun s => (s, 0)) 0 ws := by
 intro j hj
 unfold tkF
 rw [Nat.zero_add, List.getElem?_map, List.getElem?_eq_getElem hj]
 rfl
theorem any_rt {T : List (Bs × Nat)} {fin k : Nat} {vs ms s : Bs} (ht : tkF T k = some s) (hw : wOk s = true) (hn : s ≠ []) : anyF T fin ⟨k, vs, ms⟩ = .ok (s, ⟨k + 1, vs, ms⟩) := by
 unfold anyF
 exact wrd_of (x := ⟨k, vs, ms⟩) (y := ⟨k, vs, ms⟩) ht hw hn rfl
theorem exp_rt {T : List (Bs × Nat)} {fin k : Nat} {vs ms s : Bs} (ht : tkF T k = some s) : expF T fin s ⟨k, vs, ms⟩ = .ok ⟨k + 1, vs, ms⟩ := by
 unfold expF
 dsimp only
 rw [if_pos ht]
theorem nm7_len (m : Nat) : (nm7 m).length = m := by simp [nm7]
theorem ni7_len (m : Nat) : (ni7 m).length = m := by simp [ni7]
theorem rule_rt {r : Rl} {m n : Nat} (h : Rt r m n) {ax : Bs → Option Rl} : ItemOk ax (wR r) r := by
 have hW := ws_all (wR r)
 obtain ⟨T, hT⟩ : ∃ T, ((wR r).map fun s => ((s, 0) : Bs × Nat)) = T := ⟨_, rfl⟩
 have hTl : T.length = (wR r).length := by rw [← hT, List.length_map]
 rw [hT] at hW
 have el : (wR r).length = 3 + (wT r.l).length + 1 + (wT r.r).length + (wCs r.conds true).length + 1 := by
  unfold wR
  simp only [List.length_cons, List.length_append, List.length_nil]
 refine ⟨by intro q; rw [q] at el; simp at el, 0, ?_⟩
 rw [hT]
 have hW2 : Ws T 0 ([114, 117, 108, 101] :: kx r.name :: [58] :: (wT r.l ++ ([61, 62] :: (wT r.r ++ (wCs r.conds true ++ [[59]]))))) := by
  have e : wR r = [114, 117, 108, 101] :: kx r.name :: [58] :: (wT r.l ++ ([61, 62] :: (wT r.r ++ (wCs r.conds true ++ [[59]])))) := by simp [wR]
  rw [← e]
  exact hW
 obtain ⟨t1, hW2⟩ := hW2.cons
 obtain ⟨t2, hW2⟩ := hW2.cons
 obtain ⟨t3, hW2⟩ := hW2.cons
 obtain ⟨w1, hW2⟩ := hW2.app
 obtain ⟨t4, hW2⟩ := hW2.cons
 obtain ⟨w2, hW2⟩ := hW2.app
 obtain ⟨w3, hW2⟩ := hW2.app
 have t5 := hW2.cons.1
 simp only [Nat.zero_add] at t1 t2 t3 w1 t4 w2 w3 t5
 obtain ⟨n1, n2⟩ := name_ok h.t.n
 have s1 := wT_len r.l h.t.l
 have s2 := wT_len r.r h.t.r
 have s3 := wCs_len r.conds true
 have e1 := any_rt (fin := 0) (vs := []) (ms := []) t2 n1 n2
 have e2 := exp_rt (fin := 0) (vs := []) (ms := []) t3
 have e3 := rt_term (fin := 0) true r.l h.t.l (f := T.length + 1) h.cl h.m6 h.n6 (fun q => by cases q) w1 (by omega)
 have e4 := exp_rt (fin := 0) (vs := nm7 m) (ms := ni7 n) t4
 have e5 := rt_term (fin := 0) false r.r h.t.r (f := T.length + 1) h.cr h.m6 h.n6 (fun _ => ⟨rfl, rfl⟩) w2 (by omega)
 have e6 := if_rt (fin := 0) h.m6 h.n6 r.conds _ (T.length + 1) (fun c hc => ⟨h.t.c c hc, h.ci c hc⟩) w3 t5 (by omega)
 have e7 := exp_rt (fin := 0) (vs := nm7 m) (ms := ni7 n) t5
 have e0 : ruleF T 0 ⟨1, [], []⟩ = .ok (r, ⟨(wR r).length, nm7 m, ni7 n⟩) := by
  unfold ruleF
  dsimp only
  rw [e1]
  dsimp only
  rw [e2]
  dsimp only
  rw [show (⟨1 + 1 + 1, [], []⟩ : PS) = ⟨1 + 1 + 1, nm7 0, ni7 0⟩ from rfl, e3]
  dsimp only
  rw [e4]
  dsimp only
  rw [e5]
  dsimp only
  rw [e6]
  dsimp only
  rw [e7]
  dsimp only
  rw [nm7_len, ni7_len, ← h.vs, ← h.is]
  have en : (⟨(kx r.name).toArray⟩ : ByteArray) = r.name := rfl
  rw [en]
  congr 2
  congr 1
  omega
 refine ⟨⟨(wR r).length, nm7 m, ni7 n⟩, ?_, rfl⟩
 unfold itemF
 rw [if_neg (by dsimp only; rw [t1]; decide)]
 rw [exp_rt t1]
 dsimp only
 rw [show (0 : Nat) + 1 = 1 from rfl, e0]
 dsimp only
 have ho : offF T 0 1 = 0 := by
  unfold offF
  rw [← hT, List.getElem?_map]
  cases (wR r)[1]? <;> rfl
 rw [ho]
end Go.Proofs.Ytblkgjdhaibhgaa
namespace Go.Proofs.Ytblkgjdhaibhgaa
open Go.RowKit
theorem oS_ar {op : Int} (h : (oSortsF op).2.2 = true) (h4 : 4 ≤ op) : arF op = some (oSortsF op).1.length := by
 have h32 : op < 32 := by rcases oS_ops h with q | q <;> omega
 obtain ⟨i, hi⟩ : ∃ i : Fin 28, op = 4 + (i.val : Int) := ⟨⟨(op - 4).toNat, by omega⟩, by show op = 4 + ((op - 4).toNat : Int); omega⟩
 have key : ∀ i : Fin 28, (oSortsF (4 + (i.val : Int))).2.2 = true → arF (4 + (i.val : Int)) = some (oSortsF (4 + (i.val : Int))).1.length := by decide +kernel
 subst hi
 exact key i h
theorem shp_fm6 (p : Pt) : ∀ (s m : Int) (n : Nat), shp p s m n = true → m ≤ 6 → n ≤ 6 → PI p → Fm6 p := by
 induction p using Pt.ind with
 | h p ih =>
  intro s m n hs hm hn hi
  by_cases hv : p.v = 0
  ·
   rw [shp_op hv, Bool.and_eq_true, decide_eq_true_iff] at hs
   obtain ⟨⟨h1, h2, _, h4⟩, h5⟩ := hs
   have hI := hi p (nodes_self p)
   have hks : ∀ k ∈ p.kids, Fm6 k := fun k hk => by
    obtain ⟨i, hi2, rfl⟩ := List.mem_iff_getElem.1 hk
    exact ih _ hk _ m n (shpL_at hi2 h5) hm hn (hi.kid hk)
   have hiv : 0 ≤ p.iv ∧ p.iv ≤ 6 ∧ (p.iv ≠ 0 → p.imm = 0 ∧ hasImmF p.op = true) := by
    unfold pImmF at h4
    split at h4
    ·
     simp only [Bool.and_eq_true, decide_eq_true_iff] at h4; exact ⟨by omega, by omega, fun _ => ⟨h4.2.1, h4.1⟩⟩
    ·
     rename_i q; exact ⟨by omega, by omega, fun q2 => absurd q2 q⟩
   cases p with
   | mk v op imm iv ks =>
    dsimp only [Pt.v, Pt.op, Pt.imm, Pt.iv, Pt.kids] at *
    subst hv
    rcases oS_ops h1 with rfl | ⟨a, b⟩
    ·
     have hk0 : ks = [] := List.length_eq_zero_iff.1 (by rw [h2]; rfl)
     subst hk0
     by_cases q : iv = 0
     ·
      subst q; exact .cst hI
     ·
      have := (hiv.2.2 q).1
      subst this
      exact .cim (by omega) hiv.2.1
    ·
     refine .app a b (by rw [oS_ar h1 a, h2]) hI hiv.1 hiv.2.1 (fun q => (hiv.2.2 q).1) (fun q => ?_) hks
     have q1 : ¬ (op = 1 ∨ op = 23 ∨ op = 27 ∨ op = 28) := by
      simp only [immOp, decide_eq_false_iff_not] at q
      omega
     have e0 : iv = 0 := by
      by_cases q2 : iv = 0
      ·
       exact q2
      ·
       have := (hiv.2.2 q2).2
       simp only [hasImmF, decide_eq_true_eq] at this
       exact absurd this q1
     refine ⟨?_, e0⟩
     unfold pImmF at h4
     split at h4
     ·
      rename_i q2; exact absurd e0 q2
     ·
      split at h4
      ·
       rename_i q2; dsimp only [Pt.op] at q2; exact absurd q2 (by omega)
      ·
       split at h4
       ·
        rename_i q2; dsimp only [Pt.op] at q2; exact absurd q2 (by omega)
       ·
        rw [decide_eq_true_eq] at h4; dsimp only [Pt.op, Pt.imm] at h4; omega
  ·
   rw [shp_var hv, decide_eq_true_iff] at hs
   cases p with
   | mk v op imm iv ks =>
    dsimp only [Pt.v, Pt.op, Pt.imm, Pt.iv, Pt.kids] at *
    obtain ⟨rfl, rfl, rfl, hk⟩ : op = 0 ∧ imm = 0 ∧ iv = 0 ∧ ks.length = 0 := by omega
    obtain rfl := List.length_eq_zero_iff.1 hk
    exact .var (by omega) (by omega)
theorem cn_full (p : Pt) : ∀ (s m : Int) (n : Nat), shp p s m n = true → cn p n m.toNat = some (n, m.toNat) := by
 induction p using Pt.ind with
 | h p ih =>
  intro s m n hs
  by_cases hv : p.v = 0
  ·
   rw [shp_op hv, Bool.and_eq_true, decide_eq_true_iff] at hs
   obtain ⟨⟨h1, h2, _, h4⟩, h5⟩ := hs
   have hiv : cnI p.iv m.toNat = some m.toNat := by
    unfold cnI
    unfold pImmF at h4
    split at h4
    ·
     simp only [Bool.and_eq_true, decide_eq_true_iff] at h4
     rw [if_pos (by omega), if_pos (by omega)]
    ·
     rename_i q; rw [if_neg (by omega)]
   have hks : cnL p.kids n m.toNat = some (n, m.toNat) := by
    have key : ∀ ks : List Pt, (∀ k ∈ ks, cn k n m.toNat = some (n, m.toNat)) → cnL ks n m.toNat = some (n, m.toNat) := by
     intro ks
     induction ks with
     | nil => intro _; simp [cnL]
     | cons k ks ihk =>
      intro hh
      rw [cnL, hh k List.mem_cons_self]
      exact ihk fun q hq => hh q (List.mem_cons_of_mem _ hq)
    refine key _ fun k hk => ?_
    obtain ⟨i, hi2, rfl⟩ := List.mem_iff_getElem.1 hk
    exact ih _ hk _ m n (shpL_at hi2 h5)
   cases p with
   | mk v op imm iv ks =>
    dsimp only [Pt.v, Pt.op, Pt.imm, Pt.iv, Pt.kids] at *
    rw [cn, if_neg (by omega), hiv]
    exact hks
  ·
   rw [shp_var hv, decide_eq_true_iff] at hs
   cases p with
   | mk v op imm iv ks =>
    dsimp only [Pt.v, Pt.op, Pt.imm, Pt.iv, Pt.kids] at *
    rw [cn, if_pos (by omega), if_pos (by omega)]
theorem cond_6 {c : Cd} {ss : List Int} {m : Int} {n : Nat} (h : condF c ss m = true) (hs : ss.length = n + 1) (hn6 : n ≤ 6) (hm : 0 ≤ m ∧ m ≤ 6) (hn : I64 c.n) : Cd6 c ∧ CdIn n m.toNat c := by
 unfold condF at h
 split at h
 ·
  simp only [isValF, Bool.and_eq_true, decide_eq_true_iff] at h
  exact ⟨⟨by omega, by omega, by omega, by omega, by omega, by omega, by omega, hn⟩, ⟨by omega, by omega, by omega, by omega⟩⟩
 ·
  split at h
  ·
   simp only [isValF, Bool.and_eq_true, decide_eq_true_iff] at h
   exact ⟨⟨by omega, by omega, by omega, by omega, by omega, by omega, by omega, hn⟩, ⟨by omega, by omega, by omega, by omega⟩⟩
  ·
   split at h
   ·
    simp only [isValF, Bool.and_eq_true, decide_eq_true_iff] at h
    exact ⟨⟨by omega, by omega, by omega, by omega, by omega, by omega, by omega, hn⟩, ⟨by omega, by omega, by omega, by omega⟩⟩
   ·
    split at h
    ·
     simp only [isValF, isImmF, Bool.and_eq_true, decide_eq_true_iff] at h
     exact ⟨⟨by omega, by omega, by omega, by omega, by omega, by omega, by omega, hn⟩, ⟨by omega, by omega, by omega, by omega⟩⟩
    ·
     split at h
     ·
      simp only [isImmF, Bool.and_eq_true, decide_eq_true_iff] at h
      exact ⟨⟨by omega, by omega, by omega, by omega, by omega, by omega, by omega, hn⟩, ⟨by omega, by omega, by omega, by omega⟩⟩
     ·
      cases h
theorem rt_of {r : Rl} (h : implF r = true) (hi : RlI r) (hc : cn r.l 0 0 = some (r.vars.toNat, r.imms.toNat)) : Rt r r.vars.toNat r.imms.toNat := by
 have k := imp_ok h
 have hv := k.vars
 have him := k.imms
 have kc := fun x hx => cond_6 (n := r.vars.toNat) (k.cnd x hx) (by simp) (by omega) him (hi.c x hx)
 exact ⟨⟨k.name, shp_fm6 _ _ _ _ k.shl him.2 (by omega) hi.l, shp_fm6 _ _ _ _ k.shr him.2 (by omega) hi.r, fun x hx => (kc x hx).1⟩, by omega, by omega, by omega, by omega, hc, cn_full _ _ _ _ k.shr, fun x hx => (kc x hx).2⟩
theorem numV_cn {vs : List Int} {x : Int} : 0 < (numV vs x).1 ∧ ((numV vs x).1 ≤ vs.length ∧ (numV vs x).2 = vs ∨ (numV vs x).1 = vs.length + 1 ∧ (numV vs x).2 = vs ++ [x]) := by
 have key : ∀ (l : List Int) (k i : Nat), findG l x k = some i → i < k + l.length := by
  intro l
  induction l with
  | nil => intro k i h; cases h
  | cons y l ih =>
   intro k i h
   rw [findG] at h
   split at h
   ·
    injection h with h; simp; omega
   ·
    have := ih _ _ h; simp; omega
 unfold numV
 cases hf : findG vs x 0 with
 | none => exact ⟨by dsimp only; omega, .inr ⟨rfl, rfl⟩⟩
 | some i =>
  have := key vs 0 i hf
  exact ⟨by dsimp only; omega, .inl ⟨by dsimp only; omega, rfl⟩⟩
theorem num_cn (p : Pt) : ∀ (vs ms : List Int) (n : Nat), (∀ q ∈ nodes (numF p vs ms).1, q.iv = 0) → cn (numF p vs ms).1 vs.length n = some ((numF p vs ms).2.1.length, n) := by
 induction p using Pt.ind with
 | h p ih =>
  intro vs ms n hq
  by_cases hv : 0 < p.v
  ·
   rw [numF_var hv]
   dsimp only
   obtain ⟨h1, h2⟩ := numV_cn (vs := vs) (x := p.v)
   rw [cn, if_pos h1]
   rcases h2 with ⟨h2, h3⟩ | ⟨h2, h3⟩
   ·
    rw [if_pos h2, h3]
   ·
    rw [if_neg (by omega), if_pos h2, h3, List.length_append]
    rfl
  ·
   rw [numF_op hv] at hq ⊢
   dsimp only at hq ⊢
   have hi0 : (numI ms p.iv).1 = 0 := hq _ (nodes_self _)
   rw [cn, if_neg hv, hi0]
   have e : cnI 0 n = some n := rfl
   rw [e]
   dsimp only
   have key : ∀ (ks : List Pt), (∀ k ∈ ks, ∀ (vs ms : List Int) (n : Nat), (∀ q ∈ nodes (numF k vs ms).1, q.iv = 0) → cn (numF k vs ms).1 vs.length n = some ((numF k vs ms).2.1.length, n)) → ∀ vs ms, (∀ q ∈ nodesL (numL ks vs ms).1, q.iv = 0) → cnL (numL ks vs ms).1 vs.length n = some ((numL ks vs ms).2.1.length, n) := by
    intro ks
    induction ks with
    | nil => intro _ vs ms _; simp [numL, cnL]
    | cons k ks ihk =>
     intro hh vs ms hn
     simp only [numL, nodesL, List.mem_append] at hn ⊢
     rw [cnL, hh k List.mem_cons_self vs ms n (fun q hq => hn q (.inl hq))]
     exact ihk (fun q hq => hh q (List.mem_cons_of_mem _ hq)) _ _ fun q hq => hn q (.inr hq)
   refine key _ ih _ _ fun q hq2 => hq q ?_
   simp only [nodes, List.mem_cons]
   exact .inr hq2
theorem shp_iv0 (p : Pt) : ∀ (s : Int) (n : Nat), shp p s 0 n = true → ∀ q ∈ nodes p, q.iv = 0 := by
 induction p using Pt.ind with
 | h p ih =>
  intro s n hs
  have hk : ∀ k ∈ p.kids, ∀ q ∈ nodes k, q.iv = 0 := by
   by_cases hv : p.v = 0
   ·
    rw [shp_op hv, Bool.and_eq_true, decide_eq_true_iff] at hs
    intro k hk
    obtain ⟨i, hi2, rfl⟩ := List.mem_iff_getElem.1 hk
    exact ih _ hk _ n (shpL_at hi2 hs.2)
   ·
    rw [shp_var hv, decide_eq_true_iff] at hs
    have : p.kids = [] := List.length_eq_zero_iff.1 (by omega)
    rw [this]
    intro k hk
    cases hk
  have h0 : p.iv = 0 := by
   by_cases hv : p.v = 0
   ·
    rw [shp_op hv, Bool.and_eq_true, decide_eq_true_iff] at hs
    have h4 := hs.1.2.2.2
    unfold pImmF at h4
    split at h4
    ·
     simp only [Bool.and_eq_true, decide_eq_true_iff] at h4; omega
    ·
     rename_i q; omega
   ·
    rw [shp_var hv, decide_eq_true_iff] at hs; omega
  intro q hq
  rw [nodes_eq, List.mem_cons] at hq
  rcases hq with rfl | hq
  ·
   exact h0
  ·
   have key : ∀ ks : List Pt, q ∈ nodesL ks → ∃ k ∈ ks, q ∈ nodes k := by
    intro ks
    induction ks with
    | nil => intro h; simp [nodesL] at h
    | cons k ks ihk =>
     intro h
     rw [nodesL, List.mem_append] at h
     rcases h with h | h
     ·
      exact ⟨k, List.mem_cons_self, h⟩
     ·
      obtain ⟨k2, h1, h2⟩ := ihk h
      exact ⟨k2, List.mem_cons_of_mem _ h1, h2⟩
   obtain ⟨k, h1, h2⟩ := key _ hq
   exact hk k h1 q h2
end Go.Proofs.Ytblkgjdhaibhgaa
namespace Go.Proofs.Ytblkgjdhaibhgaa
open Go.RowKit
theorem results_cell_row_tmps {P : Program} {fn : Func} {p u v : Tmp} {ty : TypeId} (h : fn.results = #[.cell p ty, .tmp u, .tmp v]) (tmps : Array Value) (w : World) (g : Nat) (t : TypeId) (cs : Array Value) (fr : Nat × Nat) (d : TypeDesc)
  (hp : tmps.getD p undef = .pointer (some ⟨g, 0, none⟩)) (hg : w.heap[g]? = some (.cells cs t fr))
  (hu : P.underlying ty = some d) (hd : (match d with | .struct _ | .array _ _ => true | _ => false) = true) (hi : (P.info? ty).map (·.size) = some cs.size) :
  (results fn tmps).run P w = .ok (.tuple #[.agg cs, tmps.getD u undef, tmps.getD v undef]) w := by
 have hp' : tmps[p]?.getD undef = .pointer (some ⟨g, 0, none⟩) := by simpa using hp
 simp [results, h, hp', asAddr, run_loadVar_row w g t ty cs fr d hg hu hd hi, Result.andThen]
theorem PtK.swap {w : World} {F : Nat → Prop} {p : Pt} {KA : Option Addr} {kc : Nat} (h : PtK w F p KA kc) (a b c d : Int) : PtK w F (.mk a b c d p.kids) KA kc := by
 rw [PtK.iff] at h ⊢
 exact h
def NS (w : World) (A : Option Addr) (c : Nat) (vs : List Int) (B : Option Addr) (d : Nat) (ms : List Int) : Prop :=
 Own w 3 1 A vs.length c (icells vs) ∧ Own w 3 1 B ms.length d (icells ms) ∧ ∀ k, At A k → ¬ At B k
theorem NS.upd {w w' : World} {S : Nat → Prop} {A B : Option Addr} {c d : Nat} {vs ms : List Int} (h : NS w A c vs B d ms) (u : Upd S w w') (hA : ∀ k, At A k → ¬ S k) (hB : ∀ k, At B k → ¬ S k) : NS w' A c vs B d ms := ⟨h.1.upd u hA, h.2.1.upd u hB, h.2.2⟩
theorem findG_drop {vs : List Int} {k : Nat} (h : k < vs.length) (x : Int) : findG (vs.drop k) x k = if vs[k] = x then some k else findG (vs.drop (k + 1)) x (k + 1) := by
 rw [List.drop_eq_getElem_cons h]; rfl
theorem lastG_drop {vs : List Int} {k : Nat} (h : k < vs.length) (x a : Int) : lastG (vs.drop k) x k a = lastG (vs.drop (k + 1)) x (k + 1) (if vs[k] = x then (k : Int) else a) := by
 rw [List.drop_eq_getElem_cons h]; rfl
theorem Ints.cellA {w : World} {F : Nat → Prop} {A : Option Addr} {xs : List Int} (h : Ints w F A xs) {j : Nat} (hj : j < xs.length) : ∃ b o, A = some ⟨b, o, none⟩ ∧ F b ∧ b < w.heap.size ∧ w.cell? ⟨b, o + j, none⟩ = some (.int .i64 xs[j]) := by
 obtain ⟨b, o, h1, h2, h3, h4⟩ := Sl.at_ (k := j) h (by simpa using hj)
 exact ⟨b, o, h1, h2, h3, by simpa using h4⟩
def NumPost (w : World) (F : Nat → Prop) (A B : Option Addr) (r : Pt × List Int × List Int) (e : Ending) (w' : World) : Prop :=
 ∃ (KA' : Option Addr) (kc' : Nat) (A' : Option Addr) (c' : Nat) (B' : Option Addr) (d' : Nat),
  e = .returned (.tuple #[pv r.1 KA' kc', .slice A' r.2.1.length c', .slice B' r.2.2.length d']) ∧
  PtK w' (fun k => (F k ∨ w.heap.size ≤ k) ∧ ¬ At A' k ∧ ¬ At B' k) r.1 KA' kc' ∧ NS w' A' c' r.2.1 B' d' r.2.2 ∧
  (∀ k, At A' k → At A k ∨ w.heap.size ≤ k) ∧ (∀ k, At B' k → At B k ∨ w.heap.size ≤ k) ∧ Upd (fun k => At A k ∨ At B k) w w'
set_option maxRecDepth 100000 in
set_option maxHeartbeats 4000000 in
theorem numbered_c (p : Pt) : ∀ (w : World) (F : Nat → Prop) (KA : Option Addr) (kc : Nat) (A : Option Addr) (c : Nat) (B : Option Addr) (d : Nat) (vs ms : List Int), PtK w F p KA kc → (∀ k, F k → ¬ At A k ∧ ¬ At B k) → NS w A c vs B d ms → vs.length + p.size ≤ 1000000 → ms.length + p.size ≤ 1000000 →
  Calls Try.prog 55 #[pv p KA kc, .slice A vs.length c, .slice B ms.length d] w fun e w' => NumPost w F A B (numF p vs ms) e w' := by
 induction p using Pt.ind with
 | h p ih =>
  intro w F KA kc A c B d vs ms hp0 hF0 hns hsv hsm
  have HI := Lib.hid ih
  have hp1 := PtK.mono (G := fun k => F k ∧ k < w.heap.size) (fun k hk h => ⟨h, hk⟩) p KA kc hp0
  obtain ⟨W, HW⟩ := nm (w.alloc (.cells #[.int .i64 p.v, .int .i64 p.op, .int .i64 p.imm, .int .i64 p.iv, .slice KA p.kids.length kc] 30))
  have hU : Upd Non w W := by rw [← HW.out]; exact Upd.refl.alloc _
  have hb : Blk W w.heap.size 30 #[.int .i64 p.v, .int .i64 p.op, .int .i64 p.imm, .int .i64 p.iv, .slice KA p.kids.length kc] := by rw [← HW.out]; exact Blk.new _ _ _
  have hsW : W.heap.size = w.heap.size + 1 := by rw [← HW.out]; simp
  obtain ⟨W2, HW2⟩ := nm (W.alloc (.cells #[.int .i64 0, .int .i64 0, .int .i64 0, .int .i64 0, .slice none 0 0] 30))
  have hU2 : Upd Non W W2 := by rw [← HW2.out]; exact Upd.refl.alloc _
  have hb2 : Blk W2 (w.heap.size + 1) 30 #[.int .i64 0, .int .i64 0, .int .i64 0, .int .i64 0, .slice none 0 0] := by rw [← HW2.out, ← hsW]; exact Blk.new _ _ _
  have hsW2 : W2.heap.size = w.heap.size + 2 := by rw [← HW2.out]; simp [hsW]
  have hb := hb.upd hU2 (fun f => f)
  have hU0 := hU.then_non hU2
  have e0 := HW.out
  have e2 := HW2.out
  have hpW := PtK.upd hU0 (fun _ _ _ f => f) p KA kc hp1
  have hnsW := hns.upd hU0 (fun _ _ f => f) (fun _ _ f => f)
  have hAlt : ∀ k, At A k → k < w.heap.size := fun k h => hns.1.lt h
  have hBlt : ∀ k, At B k → k < w.heap.size := fun k h => hns.2.1.lt h
  have HS := Lib.hid (Pt.size_eq p)
  have hkl : p.kids.length ≤ 1000000 := by have h1 := Pt.len_le p.kids; have h2 := HS.out; omega
  have HF0 := Lib.hid hF0
  have HAL := Lib.hid hAlt
  have HBL := Lib.hid hBlt
  have HNV := Lib.hid (@numF_var p)
  have HNO := Lib.hid (@numF_op p)
  have hps : 1 ≤ p.size := by have := HS.out; omega
  obtain ⟨R, HR⟩ := nm (numF p vs ms)
  rw [HR.out]
  have c0 := hb.cell 0
  have c3 := hb.cell 3
  unfold pv
  obtain ⟨v, Hv⟩ := nm p.v
  obtain ⟨op, Hop⟩ := nm p.op
  obtain ⟨imm, Himm⟩ := nm p.imm
  obtain ⟨iv, Hiv⟩ := nm p.iv
  obtain ⟨k, Hk⟩ := nm p.kids.length
  rw [Hv.out] at c0 e0 hb HNV HNO
  rw [Hop.out] at e0 hb HNV HNO
  rw [Himm.out] at e0 hb HNV HNO
  rw [Hiv.out] at c3 e0 hb HNV HNO
  rw [Hk.out] at e0 hb hkl
  rw [Hv.out, Hop.out, Himm.out, Hiv.out, Hk.out]
  obtain ⟨nv, Hnv⟩ := nm vs.length
  obtain ⟨nm_, Hnm⟩ := nm ms.length
  rw [Hnv.out] at hsv ⊢
  rw [Hnm.out] at hsm ⊢
  clear ih hp0 hF0 hns hp1 hAlt hBlt hU hU2
  by_cases hv : 0 < v
  ·
   have hR := HNV.out hv vs ms
   rw [HR.out] at hR
   have hiV := hnsW.1.ints
   have HIV := Lib.hid hiV
   have HNS := Lib.hid hnsW
   have HR2 := Lib.hid hR
   have tv : decide (0 < v) = true := decide_eq_true hv
   have HV0 := Lib.hid hv
   clear HNV HNO hnsW hR hiV hv c3
   go_enter Try.func55, Try.ntmps55
   go_wp2_with fail
   go_loopg [9] nv (fun g i wr => ∃ j : Nat, Hid (g = nv - j) ∧ j ≤ nv ∧ i = .int .i64 j ∧ Hid (findG vs v 0 = findG (vs.drop j) v j) ∧ Upd Non W2 wr)
   case atStart => exact ⟨0, rfl, by omega, rfl, rfl, Upd.refl⟩
   case round =>
    obtain ⟨j, Hg, hj, rfl, HFD, hu⟩ := hrel
    have hbr := hb.upd hu (fun f => f)
    have hbR := hb2.upd hu (fun f => f)
    have d0 := hbr.cell 0
    have g0 := hbr.frozen 0
    by_cases hlt : j < nv
    ·
     have hjl : j < vs.length := by rw [Hnv.out]; exact hlt
     obtain ⟨ba, oa, hA, _, _, z⟩ := (HIV.out.upd hu (fun _ _ _ f => f)).cellA hjl
     have HFJ : Hid (findG vs v 0 = if vs[j] = v then some j else findG (vs.drop (j + 1)) v (j + 1)) := by show _ = _; rw [HFD.out]; exact findG_drop hjl v
     generalize vs[j] = y at *
     have t1 : decide (j < nv) = true := decide_eq_true hlt
     have hj0 : (0 : Int) ≤ (j : Int) := by omega
     have hjn : (j : Int) < (nv : Int) := by omega
     subst hA
     obtain ⟨wD, HwD⟩ := nm wr.drew
     have uD : Upd Non wr wD := by rw [← HwD.out]; exact Upd.refl.drew
     have dD0 := cell_upd d0 uD (fun f => f)
     have zD := cell_upd z uD (fun f => f)
     have HFL := Lib.hid hlt
     clear hlt
     go_wp2_with fail
     refine wp_region_held_drew (S := fun w' => w'.cell? ⟨w.heap.size, 0, none⟩ = some (.int .i64 v) ∧ w'.cell? ⟨ba, oa + j, none⟩ = some (.int .i64 y)) (by kernel_rfl) (by rw [HwD.out]; exact ⟨dD0, zD⟩) (fun hHeld => ?_)
     rw [HwD.out] at hHeld ⊢
     by_cases hy : y = v
     ·
      subst hy
      refine wpT 0 ?_
      try simp only [put_y]
      try simp only [Act.put]
      try simp only [put_z]
      refine wpT 1 ?_
      try simp only [put_y]
      try simp only [Act.put]
      try simp only [put_z]
      refine wpT 2 ?_
      try simp only [put_y]
      try simp only [Act.put]
      try simp only [put_z]
      refine wpT 3 ?_
      try simp only [put_y]
      try simp only [Act.put]
      try simp only [put_z]
      refine wpT 4 ?_
      try simp only [put_y]
      try simp only [Act.put]
      try simp only [put_z]
      refine wpT 5 ?_
      try simp only [put_y]
      try simp only [Act.put]
      try simp only [put_z]
      refine wpT 6 ?_
      try simp only [put_y]
      try simp only [Act.put]
      try simp only [put_z]
      refine wpAnyH_done (by kernel_rfl) ?_ _
      have hbD := hbr.upd uD (fun f => f)
      have hbRD := hbR.upd uD (fun f => f)
      have hE : findG vs y 0 = some j := by rw [HFJ.out, if_pos rfl]
      have g0 := hbD.frozen 0
      obtain ⟨X1, HX1⟩ := nm (wD.setCell ⟨w.heap.size, 0, none⟩ (.int .i64 ((j : Int) + 1)))
      have x1 := HX1.out
      have hx1 : Blk X1 w.heap.size 30 #[.int .i64 ((j : Int) + 1), .int .i64 op, .int .i64 imm, .int .i64 iv, .slice KA k kc] := by rw [← x1]; simpa using hbD.set_ 0 (.int .i64 ((j : Int) + 1))
      have v1 : Upd (· = w.heap.size) wD X1 := by rw [← x1]; exact updCell _ _ _ _
      have hxR := hbRD.upd v1 (by omega)
      have k0 := hx1.cell 0
      have k1 := hx1.cell 1
      have k2 := hx1.cell 2
      have k3 := hx1.cell 3
      have k4 := hx1.cell 4
      have r0 := hxR.cell 0
      have r1 := hxR.cell 1
      have r2 := hxR.cell 2
      have r3 := hxR.cell 3
      have r4 := hxR.cell 4
      have rf := hxR.frozen
      have HE := Lib.hid hE
      have UX : Upd (· = w.heap.size) W2 X1 := ((hu.then_non uD).mono (fun _ _ f => f.elim)).trans v1 (fun _ _ h => h)
      have HXR := Lib.hid hxR
      clear hE z zD
      go_wp2_with fail
      rw [set5_eq]
      refine bodyPost_ret (results_cell_row_tmps rfl _ _ (w.heap.size + 1) 30 _ (0, 0) _ rfl (set5_blk HXR.out _ _ _ _ _) Try.underlying30 rfl (by kernel_rfl)) rfl ?_
      have uS := set5_upd X1 (w.heap.size + 1) (.int .i64 ((j : Int) + 1)) (.int .i64 op) (.int .i64 imm) (.int .i64 iv) (.slice KA k kc)
      have UF : Upd (fun i => i = w.heap.size ∨ i = w.heap.size + 1) W2 (set5 X1 (w.heap.size + 1) (.int .i64 ((j : Int) + 1)) (.int .i64 op) (.int .i64 imm) (.int .i64 iv) (.slice KA k kc)) := (UX.mono (fun _ _ h => .inl h)).trans uS (fun _ _ h => .inr h)
      have hRe : R = (.mk ((j : Int) + 1) op imm iv p.kids, vs, ms) := by rw [HR2.out]; unfold numV; rw [HE.out]
      rw [hRe]
      have hkk := Hk.out
      refine ⟨KA, kc, _, c, B, d, ?_, ?_, HNS.out.upd UF (fun k h e => by have := HAL.out k h; omega) (fun k h e => by have := HBL.out k h; omega), fun k h => .inl h, fun k h => .inl h, (hU0.mono (fun _ _ f => f.elim)).trans UF (fun i hi h => by omega)⟩
      ·
       show _ = Ending.returned (.tuple #[.agg #[_, _, _, _, .slice KA p.kids.length kc], .slice _ vs.length c, .slice B ms.length d])
       rw [Hnv.out, Hnm.out, Hk.out]; rfl
      ·
       exact PtK.swap (PtK.mono (fun i _ h => ⟨.inl h.1, HF0.out i h.1⟩) _ _ _ (PtK.upd UF (fun i hi h e => by have := h.2; omega) p KA kc hpW)) _ _ _ _
     ·
      have ty : (y == v) = false := by simpa using hy
      have HFN : Hid (findG vs v 0 = findG (vs.drop (j + 1)) v (j + 1)) := by show _ = _; rw [HFJ.out, if_neg hy]
      clear hy
      refine wpT 0 ?_
      try simp only [put_y]
      try simp only [Act.put]
      try simp only [put_z]
      refine wpT 1 ?_
      try simp only [put_y]
      try simp only [Act.put]
      try simp only [put_z]
      refine wpT 2 ?_
      try simp only [put_y]
      try simp only [Act.put]
      try simp only [put_z]
      refine wpT 3 ?_
      try simp only [put_y]
      try simp only [Act.put]
      try simp only [put_z]
      refine wpT 4 ?_
      try simp only [put_y]
      try simp only [Act.put]
      try simp only [put_z]
      refine wpT 5 ?_
      try simp only [put_y]
      try simp only [Act.put]
      try simp only [put_z]
      refine wpT 6 ?_
      try simp only [put_y]
      try simp only [Act.put]
      try simp only [put_z]
      refine wpAnyH_done (by kernel_rfl) ?_ _
      have hltj := HFL.out
      go_wp2_with fail
      go_roundg (nv - (j + 1))
      case measure => rw [Hg.out]; omega
      case rel => exact ⟨j + 1, rfl, by omega, by go_num, HFN, hu.then_non uD⟩
    ·
     obtain rfl : nv = j := by omega
     have hE : findG vs v 0 = none := by rw [HFD.out, List.drop_of_length_le (by rw [Hnv.out]; exact Nat.le_refl _)]; rfl
     have HE := Lib.hid hE
     have hoR := HNS.out.1.upd hu (fun _ _ f => f)
     rw [Hnv.out] at hoR
     have hltr := hb2.lt
     have hsu := hu.size
     clear hE
     go_wp2_with (at_builtin; refine wpList_app rfl rfl T_ints' rfl (hoR.alloc _) rfl (Sl.new _ _ _) rfl (by simp [Value.oneCell']) (by simp only [maxLen]; omega) (by omega) ?_; intro A3 c3 w3 ho3 hu3 hat3; have hb3 := (hbr.alloc (.cells #[.int .i64 v] 3)).upd hu3 (fun h => by have := HAL.out _ h; omega); have hbR3 := (hbR.alloc (.cells #[.int .i64 v] 3)).upd hu3 (fun h => by have := HAL.out _ h; omega); have d03 := hb3.cell 0; have g03 := hb3.frozen 0; obtain ⟨X1, HX1⟩ := nm (w3.setCell ⟨w.heap.size, 0, none⟩ (.int .i64 ((nv : Int) + 1))); have x1 := HX1.out; have hx1 : Blk X1 w.heap.size 30 #[.int .i64 ((nv : Int) + 1), .int .i64 op, .int .i64 imm, .int .i64 iv, .slice KA k kc] := (by rw [← x1]; simpa using hb3.set_ 0 (.int .i64 ((nv : Int) + 1))); have v1 : Upd (· = w.heap.size) w3 X1 := (by rw [← x1]; exact updCell _ _ _ _); have hxR := hbR3.upd v1 (by omega); have k0 := hx1.cell 0; have k1 := hx1.cell 1; have k2 := hx1.cell 2; have k3 := hx1.cell 3; have k4 := hx1.cell 4; have r0 := hxR.cell 0; have r1 := hxR.cell 1; have r2 := hxR.cell 2; have r3 := hxR.cell 3; have r4 := hxR.cell 4; have rf := hxR.frozen)
     rw [set5_eq]
     refine bodyPost_ret (results_cell_row_tmps rfl _ _ (w.heap.size + 1) 30 _ (0, 0) _ rfl (set5_blk hxR _ _ _ _ _) Try.underlying30 rfl (by kernel_rfl)) rfl ?_
     have uS := set5_upd X1 (w.heap.size + 1) (.int .i64 ((nv : Int) + 1)) (.int .i64 op) (.int .i64 imm) (.int .i64 iv) (.slice KA k kc)
     have hat4 : ∀ i, At A3 i → At A i ∨ i = wr.heap.size + 1 := fun i h => by simpa using hat3 i h
     have hal : Upd Non wr (wr.alloc (.cells #[.int .i64 v] 3)) := Upd.refl.alloc _
     have u3X : Upd (fun i => i = w.heap.size ∨ i = w.heap.size + 1) w3 (set5 X1 (w.heap.size + 1) (.int .i64 ((nv : Int) + 1)) (.int .i64 op) (.int .i64 imm) (.int .i64 iv) (.slice KA k kc)) := (v1.mono (fun _ _ h => .inl h)).trans uS (fun _ _ h => .inr h)
     have UF : Upd (fun i => At A i ∨ i = w.heap.size ∨ i = w.heap.size + 1) W2 (set5 X1 (w.heap.size + 1) (.int .i64 ((nv : Int) + 1)) (.int .i64 op) (.int .i64 imm) (.int .i64 iv) (.slice KA k kc)) :=
      ((((hu.then_non hal).mono (fun _ _ f => f.elim)).trans hu3 (fun _ _ h => .inl h))).trans u3X (fun _ _ h => .inr h)
     have hRe : R = (.mk ((nv : Int) + 1) op imm iv p.kids, vs ++ [v], ms) := by rw [HR2.out]; unfold numV; rw [HE.out, Hnv.out]
     rw [hRe]
     have hoF := ho3.upd u3X (fun i h e => by rcases hat4 i h with h | h; have := HAL.out i h; omega; omega)
     rw [← icells_snoc] at hoF
     have hdis := HNS.out.2.2
     refine ⟨KA, kc, A3, c3, B, d, ?_, ?_, ⟨by simpa [Hnv.out] using hoF, HNS.out.2.1.upd UF (fun i h e => by
      have h1 := HBL.out i h
      rcases e with e | e
      ·
       exact hdis i e h
      ·
       omega), fun i h hB => ?_⟩, fun i h => ?_, fun i h => .inl h, (hU0.mono (fun _ _ f => f.elim)).trans UF (fun i hi h => by rcases h with h | h; exact .inl h; omega)⟩
     ·
      show _ = Ending.returned (.tuple #[.agg #[_, _, _, _, .slice KA p.kids.length kc], .slice _ (vs ++ [v]).length c3, .slice B ms.length d])
      rw [List.length_append, Hnv.out, Hnm.out, Hk.out]; rfl
     ·
      refine PtK.swap (PtK.mono (G := fun i => (F i ∨ w.heap.size ≤ i) ∧ ¬ At A3 i ∧ ¬ At B i) (fun i _ h => ⟨.inl h.1, fun h3 => ?_, (HF0.out i h.1).2⟩) _ _ _ (PtK.upd UF (fun i hi h e => by
       have h1 := HF0.out i h.1
       have h2 := h.2
       rcases e with e | e
       ·
        exact h1.1 e
       ·
        omega) p KA kc hpW)) _ _ _ _
      rcases hat4 i h3 with h3 | h3
      ·
       exact (HF0.out i h.1).1 h3
      ·
       have := h.2; omega
     ·
      rcases hat4 i h with h | h
      ·
       exact hdis i h hB
      ·
       have := HBL.out i hB; omega
     ·
      rcases hat4 i h with h | h
      ·
       exact .inl h
      ·
       exact .inr (by omega)
  ·
   have hR := HNO.out hv vs ms
   rw [HR.out] at hR
   have HIM := Lib.hid hnsW.2.1.ints
   have HNS := Lib.hid hnsW
   have tv : decide (0 < v) = false := decide_eq_false hv
   have HV0 := Lib.hid hv
   obtain ⟨iv1, Hiv1⟩ := nm (numI ms iv).1
   obtain ⟨msI, HmsI⟩ := nm (numI ms iv).2
   rw [Hiv1.out, HmsI.out] at hR
   have HNI : Hid ((iv1, msI) = numI ms iv) := by show _ = _; rw [← Hiv1.out, ← HmsI.out]
   unfold numI at HNI
   have hIl := numI_len ms iv
   rw [HmsI.out, Hnm.out] at hIl
   have HR2 := Lib.hid hR
   clear HNV HNO hnsW hR hv
   go_enter Try.func55, Try.ntmps55
   go_upto_region 11 with fail
   go_cut [50] (fun t wx => t = .bool (decide (0 < iv)) ∧ W2 = wx)
   case first =>
    go_wp2_with fail
    go_meet
    case rel => exact ⟨rfl, rfl⟩
   case rest =>
   obtain ⟨rfl, rfl⟩ := hcut
   obtain ⟨tb, Htb⟩ := nm (decide (0 < iv))
   rw [Htb.out]
   go_upto_if 50 with fail
   go_cut [2, 10, 11] (fun s2 _ _ wx => ∃ (B1 : Option Addr) (d1 : Nat), s2 = .slice B1 msI.length d1 ∧ Hid (NS wx A c vs B1 d1 msI) ∧ Hid (∀ i, At B1 i → At B i ∨ w.heap.size + 2 ≤ i) ∧ Blk wx w.heap.size 30 #[.int .i64 v, .int .i64 op, .int .i64 imm, .int .i64 iv1, .slice KA k kc] ∧ Upd (fun i => At B i ∨ i = w.heap.size) W2 wx)
   case first =>
    by_cases hiv : 0 < iv
    ·
     have tiv : tb = true := by rw [← Htb.out]; exact decide_eq_true hiv
     subst tiv
     have hni := HNI.out
     rw [if_pos hiv] at hni
     have HNI2 := Lib.hid hni
     clear hni hiv
     go_wp2_with fail
     go_loopg [10, 11] nm_ (fun g s i wr => ∃ (j : Nat) (a : Int), Hid (g = nm_ - j) ∧ j ≤ nm_ ∧ i = .int .i64 j ∧ s = .int .i64 a ∧ -1 ≤ a ∧ a < nm_ ∧ Hid (lastG ms iv 0 (-1) = lastG (ms.drop j) iv j a) ∧ Upd Non W2 wr)
     case atStart => exact ⟨0, -1, rfl, by omega, rfl, rfl, by omega, by omega, rfl, Upd.refl⟩
     case round =>
      obtain ⟨j, a, Hg, hj, rfl, rfl, ha1, ha2, HFD, hu⟩ := hrel
      have hbr := hb.upd hu (fun f => f)
      have d3 := hbr.cell 3
      have g3 := hbr.frozen 3
      by_cases hlt : j < nm_
      ·
       have hjl : j < ms.length := by rw [Hnm.out]; exact hlt
       obtain ⟨ba, oa, hB, _, _, z⟩ := (HIM.out.upd hu (fun _ _ _ f => f)).cellA hjl
       have HFJ : Hid (lastG ms iv 0 (-1) = lastG (ms.drop (j + 1)) iv (j + 1) (if ms[j] = iv then (j : Int) else a)) := by show _ = _; rw [HFD.out]; exact lastG_drop hjl iv a
       generalize ms[j] = y at *
       have t1 : decide (j < nm_) = true := decide_eq_true hlt
       have hj0 : (0 : Int) ≤ (j : Int) := by omega
       have hjn : (j : Int) < (nm_ : Int) := by omega
       subst hB
       obtain ⟨wD, HwD⟩ := nm wr.drew
       have uD : Upd Non wr wD := by rw [← HwD.out]; exact Upd.refl.drew
       have dD0 := cell_upd d3 uD (fun f => f)
       have zD := cell_upd z uD (fun f => f)
       have HFL := Lib.hid hlt
       have HA1 := Lib.hid ha1
       clear hlt ha1
       go_wp2_with fail
       refine wp_region_held_drew (S := fun w' => w'.cell? ⟨w.heap.size, 3, none⟩ = some (.int .i64 iv) ∧ w'.cell? ⟨ba, oa + j, none⟩ = some (.int .i64 y)) (by kernel_rfl) (by rw [HwD.out]; exact ⟨dD0, zD⟩) (fun hHeld => ?_)
       rw [HwD.out] at hHeld ⊢
       by_cases hy : y = iv
       ·
        subst hy
        have HFK : Hid (lastG ms y 0 (-1) = lastG (ms.drop (j + 1)) y (j + 1) (j : Int)) := by show _ = _; rw [HFJ.out, if_pos rfl]
        refine wpT 0 ?_
        try simp only [put_y]
        try simp only [Act.put]
        try simp only [put_z]
        refine wpT 1 ?_
        try simp only [put_y]
        try simp only [Act.put]
        try simp only [put_z]
        refine wpT 2 ?_
        try simp only [put_y]
        try simp only [Act.put]
        try simp only [put_z]
        refine wpT 3 ?_
        try simp only [put_y]
        try simp only [Act.put]
        try simp only [put_z]
        refine wpT 4 ?_
        try simp only [put_y]
        try simp only [Act.put]
        try simp only [put_z]
        refine wpT 5 ?_
        try simp only [put_y]
        try simp only [Act.put]
        try simp only [put_z]
        refine wpT 6 ?_
        try simp only [put_y]
        try simp only [Act.put]
        try simp only [put_z]
        refine wpAnyH_done (by kernel_rfl) ?_ _
        have hltj := HFL.out
        go_wp2_with fail
        go_roundg (nm_ - (j + 1))
        case measure => rw [Hg.out]; omega
        case rel => exact ⟨j + 1, j, rfl, by omega, by go_num, rfl, by omega, hjn, HFK, hu.then_non uD⟩
       ·
        have ty : (y == iv) = false := by simpa using hy
        have HFK : Hid (lastG ms iv 0 (-1) = lastG (ms.drop (j + 1)) iv (j + 1) a) := by show _ = _; rw [HFJ.out, if_neg hy]
        clear hy
        refine wpT 0 ?_
        try simp only [put_y]
        try simp only [Act.put]
        try simp only [put_z]
        refine wpT 1 ?_
        try simp only [put_y]
        try simp only [Act.put]
        try simp only [put_z]
        refine wpT 2 ?_
        try simp only [put_y]
        try simp only [Act.put]
        try simp only [put_z]
        refine wpT 3 ?_
        try simp only [put_y]
        try simp only [Act.put]
        try simp only [put_z]
        refine wpT 4 ?_
        try simp only [put_y]
        try simp only [Act.put]
        try simp only [put_z]
        refine wpT 5 ?_
        try simp only [put_y]
        try simp only [Act.put]
        try simp only [put_z]
        refine wpT 6 ?_
        try simp only [put_y]
        try simp only [Act.put]
        try simp only [put_z]
        refine wpAnyH_done (by kernel_rfl) ?_ _
        have hltj := HFL.out
        go_wp2_with fail
        go_roundg (nm_ - (j + 1))
        case measure => rw [Hg.out]; omega
        case rel => exact ⟨j + 1, a, rfl, by omega, by go_num, rfl, HA1.out, ha2, HFK, hu.then_non uD⟩
      ·
       obtain rfl : nm_ = j := by omega
       have HE : Hid (lastG ms iv 0 (-1) = a) := by show _ = _; rw [HFD.out, List.drop_of_length_le (by rw [Hnm.out]; exact Nat.le_refl _)]; rfl
       have t1 : decide (nm_ < nm_) = false := by simp
       rw [HE.out] at HNI2
       have hbm := HNS.out.upd hu (fun _ _ f => f) (fun _ _ f => f)
       have hsu := hu.size
       by_cases h0 : a < 0
       ·
        have t2 : decide (a < 0) = true := decide_eq_true h0
        have hni := HNI2.out
        rw [if_pos h0, Hnm.out] at hni
        have HI1 : Hid (iv1 = (nm_ : Int) + 1) := congrArg Prod.fst hni
        have HI2 : Hid (msI = ms ++ [iv]) := congrArg Prod.snd hni
        have hoR := hbm.2.1
        rw [Hnm.out] at hoR
        have HBM := Lib.hid hbm
        clear hni h0 hbm
        go_wp2_with (at_builtin; refine wpList_app rfl rfl T_ints' rfl (hoR.alloc _) rfl (Sl.new _ _ _) rfl (by simp [Value.oneCell']) (by simp only [maxLen]; omega) (by omega) ?_; intro B3 d3' w3 ho3 hu3 hat3; have hb3 := (hbr.alloc (.cells #[.int .i64 iv] 3)).upd hu3 (fun h => by have := HBL.out _ h; omega); have d03 := hb3.cell 3; have g03 := hb3.frozen 3)
        go_meet
        case rel =>
         have v1 : Upd (· = w.heap.size) w3 (w3.setCell ⟨w.heap.size, 3, none⟩ (.int .i64 ((nm_ : Int) + 1))) := updCell _ _ _ _
         have hx1 : Blk (w3.setCell ⟨w.heap.size, 3, none⟩ (.int .i64 ((nm_ : Int) + 1))) w.heap.size 30 #[.int .i64 v, .int .i64 op, .int .i64 imm, .int .i64 iv1, .slice KA k kc] := by
          rw [HI1.out]; simpa using hb3.set_ 3 (.int .i64 ((nm_ : Int) + 1))
         have hat4 : ∀ i, At B3 i → At B i ∨ i = wr.heap.size + 1 := fun i h => by simpa using hat3 i h
         have hal : Upd Non wr (wr.alloc (.cells #[.int .i64 iv] 3)) := Upd.refl.alloc _
         have hdis := HNS.out.2.2
         refine ⟨B3, d3', by rw [HI2.out, List.length_append, Hnm.out]; rfl, ⟨((HBM.out.1.alloc _).upd hu3 hdis).upd v1 (fun i h e => by have := HAL.out i h; omega), ?_, fun i h hB => ?_⟩, fun i h => ?_, hx1, ((hu.then_non hal).mono (fun _ _ f => f.elim)).trans (hu3.mono (fun _ _ h => .inl h)) (fun _ _ h => h) |>.trans v1 (fun _ _ h => .inr h)⟩
         ·
          have h1 := ho3.upd v1 (fun i h e => by rcases hat4 i h with h | h; have := HBL.out i h; omega; omega)
          rw [← icells_snoc] at h1
          rw [HI2.out]
          simpa [Hnm.out] using h1
         ·
          rcases hat4 i hB with h3 | h3
          ·
           exact hdis i h h3
          ·
           have := HAL.out i h; omega
         ·
          rcases hat4 i h with h3 | h3
          ·
           exact .inl h3
          ·
           exact .inr (by omega)
       ·
        have t2 : decide (a < 0) = false := decide_eq_false h0
        have hni := HNI2.out
        rw [if_neg h0] at hni
        have HI1 : Hid (iv1 = a + 1) := congrArg Prod.fst hni
        have HI2 : Hid (msI = ms) := congrArg Prod.snd hni
        have HBM := Lib.hid hbm
        have hsm0 : nm_ ≤ 1000000 := by omega
        clear hni h0 hbm
        go_wp2_with fail
        go_meet
        case rel =>
         have v1 : Upd (· = w.heap.size) wr (wr.setCell ⟨w.heap.size, 3, none⟩ (.int .i64 (a + 1))) := updCell _ _ _ _
         have hx1 : Blk (wr.setCell ⟨w.heap.size, 3, none⟩ (.int .i64 (a + 1))) w.heap.size 30 #[.int .i64 v, .int .i64 op, .int .i64 imm, .int .i64 iv1, .slice KA k kc] := by
          rw [HI1.out]; simpa using hbr.set_ 3 (.int .i64 (a + 1))
         refine ⟨B, d, by rw [HI2.out, Hnm.out], ?_, fun i h => .inl h, hx1, (hu.mono (fun _ _ f => f.elim)).trans v1 (fun _ _ h => .inr h)⟩
         rw [HI2.out]
         exact HBM.out.upd v1 (fun i h e => by have := HAL.out i h; omega) (fun i h e => by have := HBL.out i h; omega)
    ·
     have tiv : tb = false := by rw [← Htb.out]; exact decide_eq_false hiv
     subst tiv
     have hni := HNI.out
     rw [if_neg hiv] at hni
     have h1 : iv1 = iv := congrArg Prod.fst hni
     have h2 : msI = ms := congrArg Prod.snd hni
     subst h1 h2
     clear hiv hni
     go_wp2_with fail
     go_meet
     case rel => exact ⟨B, d, by rw [Hnm.out], HNS, fun i h => .inl h, hb, Upd.refl⟩
   case rest =>
   obtain ⟨B0, d0, rfl, hns0, hat0, hb0, hu0⟩ := hcut
   obtain ⟨w1, rfl⟩ : ∃ w1 : World, w1 = wc := ⟨_, rfl⟩
   have hbR0 := hb2.upd hu0 (fun h => by rcases h with h | h; have := HBL.out _ h; omega; omega)
   have hpK0 := PtK.upd hu0 (fun i hi h e => by
    have h1 := HF0.out i h.1
    have h2 := h.2
    rcases e with e | e
    ·
     exact h1.2 e
    ·
     omega) p KA kc hpW
   have c4 := hb0.cell 4
   have hs1 := hu0.size
   clear hb hb2 hpW c0 c3 e0 e2
   obtain ⟨w2, Hw2⟩ := nm (w1.alloc (.cells #[] 30))
   have uw2 : Upd Non w1 w2 := by rw [← Hw2.out]; exact Upd.refl.alloc _
   have hsw2 : w2.heap.size = w1.heap.size + 1 := by rw [← Hw2.out]; simp
   have hK0 : Own w2 30 5 (some ⟨w1.heap.size, 0, none⟩) 0 0 [] := Own.mk_ (cur := #[]) (by rw [← Hw2.out]; exact Blk.new _ _ _) (by omega) (by simp [maxLen]) rfl rfl
   obtain ⟨F0, HF0e⟩ : ∃ F0 : Nat → Prop, Hid (F0 = fun i => F i ∧ i < w.heap.size) := ⟨_, rfl⟩
   have HL := Lib.hid (fun (ks : List Pt) => numL_lens ks vs msI)
   have hml : msI.length ≤ ms.length + 1 := by rw [Hnm.out]; exact hIl
   go_wp2_with fail
   rw [Hw2.out]
   go_loopg [1, 2, 12, 13, 14] k (fun g s1 s2 s12 i _ wr => ∃ (j : Nat) (A1 : Option Addr) (c1 : Nat) (B1 : Option Addr) (d1 : Nat) (KS : Option Addr) (ks : Nat) (L : List Pt) (vs1 ms1 : List Int),
    Hid (g = k - j) ∧ j ≤ k ∧ s1 = .slice A1 vs1.length c1 ∧ s2 = .slice B1 ms1.length d1 ∧ s12 = .slice KS j ks ∧ i = .int .i64 j ∧
    Hid ((L, vs1, ms1) = numL (p.kids.take j) vs msI) ∧ Hid (NS wr A1 c1 vs1 B1 d1 ms1) ∧
    Hid (PtO wr (fun i => (F0 i ∨ w.heap.size + 2 ≤ i) ∧ ¬ At A1 i ∧ ¬ At B1 i) KS j ks L) ∧
    Hid (∀ i, At A1 i → At A i ∨ w1.heap.size ≤ i) ∧ Hid (∀ i, At B1 i → At B0 i ∨ w1.heap.size ≤ i) ∧ Hid (∀ i, At KS i → w1.heap.size ≤ i ∧ ¬ At A1 i ∧ ¬ At B1 i) ∧
    Upd (fun i => At A i ∨ At B0 i) w1 wr)
   case atStart =>
    refine ⟨0, A, c, B0, d0, _, 0, [], vs, msI, rfl, by omega, by rw [Hnv.out], rfl, rfl, rfl, rfl, hns0.upd uw2 (fun _ _ f => f) (fun _ _ f => f), ⟨rfl, _, hK0, PtCells.nil⟩, fun i h => .inl h, fun i h => .inl h, fun i h => ?_, uw2.mono (fun _ _ f => f.elim)⟩
    rw [At.some_] at h
    subst h
    refine ⟨by omega, fun hA => ?_, fun hB => ?_⟩
    ·
     have := HAL.out _ hA; omega
    ·
     have := hns0.2.1.lt hB; omega
   case round =>
    obtain ⟨j, A1, c1, B1, d1, KS, ks, L, vs1, ms1, Hg, hj, rfl, rfl, rfl, rfl, HN, HNS1, HPO, HA1, HB1, HKS, hu⟩ := hrel
    by_cases hlt : j < k
    ·
     have hjk : j < p.kids.length := by rw [Hk.out]; exact hlt
     have t1 : decide (j < k) = true := decide_eq_true hlt
     have hbr := hb0.upd hu (fun h => by
      rcases h with h | h
      ·
       have := HAL.out _ h; omega
      ·
       rcases hat0.out _ h with h | h
       ·
        have := HBL.out _ h; omega
       ·
        omega)
     have c4r := hbr.cell 4
     have hsu := hu.size
     go_upto_region 27 with fail
     obtain ⟨w5, Hw5⟩ := nm (wr.alloc (.cells #[.int .i64 0, .int .i64 0, .int .i64 0, .int .i64 0, .slice none 0 0] 30))
     have u5 : Upd Non wr w5 := by rw [← Hw5.out]; exact Upd.refl.alloc _
     have hs5 : w5.heap.size = wr.heap.size + 1 := by rw [← Hw5.out]; simp
     have hB5 : Blk w5 wr.heap.size 30 #[.int .i64 0, .int .i64 0, .int .i64 0, .int .i64 0, .slice none 0 0] := by rw [← Hw5.out]; exact Blk.new _ _ _
     have hpk := PtK.upd hu (fun i hi h e => by
      have h1 := HF0.out i h.1
      have h2 := h.2
      rcases e with e | e
      ·
       exact h1.1 e
      ·
       rcases hat0.out _ e with e | e
       ·
        exact h1.2 e
       ·
        omega) _ _ _ hpK0
     have hpk := PtK.upd u5 (fun _ _ _ f => f) _ _ _ hpk
     obtain ⟨bk, ok, hKA, hFk, hbw, KQ, kq, h0, h1, h2, h3, h4, hqk⟩ := hpk.at_ hjk
     have HTK : Hid (p.kids.take (j + 1) = p.kids.take j ++ [p.kids[j]]) := take_snoc_ hjk
     have hqs : p.kids[j].size ≤ Pt.sizeL (p.kids.take (j + 1)) ∧ Pt.sizeL (p.kids.take j) + p.kids[j].size ≤ Pt.sizeL p.kids := by
      have e1 := Pt.sizeL_take p.kids j hjk
      have e2 := Pt.sizeL_take_le p.kids (j + 1)
      omega
     have CI := HI.out p.kids[j] (List.getElem_mem hjk) w5 F0 KQ kq A1 c1 B1 d1 vs1 ms1
     generalize p.kids[j] = q at *
     have hll := HL.out (p.kids.take j)
     rw [← HN.out] at hll
     have hse := HS.out
     have hnv := Hnv.out
     have hnm := Hnm.out
     have hF0 := HF0e.out
     have hF01 : ∀ i, F0 i → ¬ At A1 i ∧ ¬ At B1 i := by
      intro i hi
      rw [hF0] at hi
      refine ⟨fun h => ?_, fun h => ?_⟩
      ·
       rcases HA1.out i h with h | h
       ·
        exact (HF0.out i hi.1).1 h
       ·
        have := hi.2; omega
      ·
       rcases HB1.out i h with h | h
       ·
        rcases hat0.out _ h with h | h
        ·
         exact (HF0.out i hi.1).2 h
        ·
         have := hi.2; omega
       ·
        have := hi.2; omega
     have hns5 := HNS1.out.upd u5 (fun _ _ f => f) (fun _ _ f => f)
     have C1 := Lib.hid (CI (by rw [hF0]; exact hqk) hF01 hns5 (by have := hll.1; simp only at this; omega) (by have := hll.2.1; simp only at this; omega))
     have HNE : Hid (numL (p.kids.take (j + 1)) vs msI = (L ++ [(numF q vs1 ms1).1], (numF q vs1 ms1).2)) := by
      show _ = _
      rw [HTK.out, numL_snoc, ← HN.out]
     obtain ⟨Rq, HRq⟩ := nm (numF q vs1 ms1)
     rw [HRq.out] at C1 HNE
     have HQ := Lib.hid hqk
     have c4r := hbr.upd u5 (fun f => f) |>.cell 4
     rw [Hw5.out]
     clear CI hF0 hns5 hqk hpk hll hse hqs hF01 hnv hnm
     subst hKA
     go_wp2_with fail
     refine C1.out.mono ?_
     rintro e w7 ⟨KA', kc', A2, c2, B2, d2, rfl, hq7, hn7, ha7, hb7, u7⟩
     have HQ7 := Lib.hid hq7
     have HN7 := Lib.hid hn7
     have HA7 := Lib.hid ha7
     have HB7 := Lib.hid hb7
     obtain ⟨q', Hq'⟩ := nm Rq.1
     obtain ⟨vs2, Hvs2⟩ := nm Rq.2.1
     obtain ⟨ms2, Hms2⟩ := nm Rq.2.2
     rw [Hq'.out] at HQ7
     rw [Hvs2.out, Hms2.out] at HN7
     rw [Hq'.out, Hvs2.out, Hms2.out]
     have hA5 : ∀ i, At A1 i ∨ At B1 i → i < wr.heap.size := fun i h => by
      rcases h with h | h
      ·
       exact HNS1.out.1.lt h
      ·
       exact HNS1.out.2.1.lt h
     have hB7 := hB5.upd u7 (fun h => by have := hA5 _ h; omega)
     have r0 := hB7.cell 0
     have r1 := hB7.cell 1
     have r2 := hB7.cell 2
     have r3 := hB7.cell 3
     have r4 := hB7.cell 4
     have rf := hB7.frozen
     have HB7b := Lib.hid hB7
     clear hq7 hn7 ha7 hb7 hB7 h0 h1 h2 h3 h4 c4r hbr
     unfold pv
     go_upto_region 28 with fail
     rw [set5_eq]
     obtain ⟨w8, Hw8⟩ := nm (set5 w7 wr.heap.size (.int .i64 q'.v) (.int .i64 q'.op) (.int .i64 q'.imm) (.int .i64 q'.iv) (.slice KA' q'.kids.length kc'))
     have u8 : Upd (· = wr.heap.size) w7 w8 := by rw [← Hw8.out]; exact set5_upd _ _ _ _ _ _ _
     have b8 : Blk w8 wr.heap.size 30 #[.int .i64 q'.v, .int .i64 q'.op, .int .i64 q'.imm, .int .i64 q'.iv, .slice KA' q'.kids.length kc'] := by rw [← Hw8.out]; exact set5_blk HB7b.out _ _ _ _ _
     rw [Hw8.out]
     have s0 := b8.cell 0
     have s1 := b8.cell 1
     have s2 := b8.cell 2
     have s3 := b8.cell 3
     have s4 := b8.cell 4
     have hs7 := u7.size
     have hs8 := u8.size
     have hKS := HKS.out
     have hKlt : ∀ i, At KS i → i < wr.heap.size := fun i h => HPO.out.lt h
     have hA2w : ∀ i, At A2 i → At A1 i ∨ w5.heap.size ≤ i := HA7.out
     have hB2w : ∀ i, At B2 i → At B1 i ∨ w5.heap.size ≤ i := HB7.out
     have hn7l : ∀ i, At A2 i ∨ At B2 i → i < w7.heap.size := fun i h => by
      rcases h with h | h
      ·
       exact HN7.out.1.lt h
      ·
       exact HN7.out.2.1.lt h
     have hp0 := HPO.out.mono (G' := fun i => (F0 i ∨ w.heap.size + 2 ≤ i) ∧ ¬ At A2 i ∧ ¬ At B2 i ∧ ¬ At A1 i ∧ ¬ At B1 i ∧ i < wr.heap.size) (fun i hi h =>
      ⟨h.1, fun f => by rcases hA2w i f with f | f; exact h.2.1 f; omega, fun f => by rcases hB2w i f with f | f; exact h.2.2 f; omega, h.2.1, h.2.2, hi⟩)
     have hp8 := (((hp0.upd u5 (fun _ _ f => f) (fun _ _ _ f => f)).upd u7 (fun i h e => by rcases e with e | e; exact (hKS i h).2.1 e; exact (hKS i h).2.2 e) (fun i _ h e => by
      rcases e with e | e
      ·
       exact h.2.2.2.1 e
      ·
       exact h.2.2.2.2.1 e)).upd u8 (fun i h e => by have := hKlt i h; omega) (fun i _ h e => by have := h.2.2.2.2.2; omega)).mono (G' := fun i => (F0 i ∨ w.heap.size + 2 ≤ i) ∧ ¬ At A2 i ∧ ¬ At B2 i) (fun i _ h => ⟨h.1, h.2.1, h.2.2.1⟩)
     have hF0w : ∀ i, F0 i → i < w.heap.size := fun i h => by rw [HF0e.out] at h; exact h.2
     have hq8 : PtK w8 (fun i => ((F0 i ∨ w.heap.size + 2 ≤ i) ∧ ¬ At A2 i ∧ ¬ At B2 i) ∧ ¬ At KS i) q' KA' kc' :=
      PtK.mono (fun i _ h => ⟨⟨by rcases h.1 with h | h; exact .inl h; exact .inr (by omega), h.2.1, h.2.2⟩, fun f => by
       have h3 := (hKS i f).1
       have h4 := hKlt i f
       rcases h.1 with h | h
       ·
        have := hF0w i h; omega
       ·
        omega⟩) _ _ _ (PtK.upd u8 (fun i hi h e => by
        rcases h.1 with h | h
        ·
         have := hF0w i h; omega
        ·
         omega) _ _ _ HQ7.out)
     have hn8 := HN7.out.upd u8 (fun i h e => by rcases hA2w i h with h | h; have := hA5 i (.inl h); omega; omega) (fun i h e => by rcases hB2w i h with h | h; have := hA5 i (.inr h); omega; omega)
     obtain ⟨hnL, cs, ho8, hc8⟩ := id hp8
     have HP8 := Lib.hid hp8
     have HC8 := Lib.hid hc8
     have HQ8 := Lib.hid hq8
     have HN8 := Lib.hid hn8
     have HA2w := Lib.hid hA2w
     have HB2w := Lib.hid hB2w
     have HKSb := Lib.hid hKS
     have HKlt := Lib.hid hKlt
     have HF0w := Lib.hid hF0w
     have HA5 := Lib.hid hA5
     have Hn7l := Lib.hid hn7l
     clear hp0 hp8 hc8 hq8 hn8 hA2w hB2w hKS hKlt hF0w hA5 hn7l b8 hnL r0 r1 r2 r3 r4 rf
     go_wp2_with (at_builtin; refine wpList_app rfl rfl T_pats rfl (ho8.alloc _) rfl (Sl.new _ _ _) rfl (by simp [Value.oneCell']) (by simp only [maxLen]; omega) (by omega) ?_; intro A9 c9 w9 ho9 hu9 hat9)
     have hal : Upd Non w8 (w8.alloc (.cells #[.int .i64 q'.v, .int .i64 q'.op, .int .i64 q'.imm, .int .i64 q'.iv, .slice KA' q'.kids.length kc'] 30)) := Upd.refl.alloc _
     have hat9b : ∀ i, At A9 i → At KS i ∨ i = w8.heap.size + 1 := fun i h => by simpa using hat9 i h
     have hpa := HP8.out.upd hal (fun _ _ f => f) (fun _ _ _ f => f)
     have hp9 := PtO.snoc (G' := fun i => (F0 i ∨ w.heap.size + 2 ≤ i) ∧ ¬ At A2 i ∧ ¬ At B2 i) hpa (HC8.out.mono hal (fun _ _ _ f => f) (fun _ _ h => h)) (PtK.upd hal (fun _ _ _ f => f) _ _ _ HQ8.out) ho9 hu9 hat9 (fun _ _ h => h)
     have hn9 := (HN8.out.upd hal (fun _ _ f => f) (fun _ _ f => f)).upd hu9 (fun i h e => by
      rcases HA2w.out i h with h | h
      ·
       exact (HKSb.out i e).2.1 h
      ·
       have := HKlt.out i e; omega) (fun i h e => by
      rcases HB2w.out i h with h | h
      ·
       exact (HKSb.out i e).2.2 h
      ·
       have := HKlt.out i e; omega)
     have HU9 : Upd (fun i => At A i ∨ At B0 i) w1 w9 := by
      refine Upd.trans (Upd.then_non (Upd.trans (Upd.trans (hu.then_non u5) u7 ?_) u8 ?_) hal) hu9 ?_
      ·
       intro i hi h
       rcases h with h | h
       ·
        rcases HA1.out i h with h | h
        ·
         exact .inl h
        ·
         omega
       ·
        rcases HB1.out i h with h | h
        ·
         exact .inr h
        ·
         omega
      ·
       intro i hi h; omega
      ·
       intro i hi h; have := (HKSb.out i h).1; omega
     have HN1 : Hid ((L ++ [q'], vs2, ms2) = numL (p.kids.take (j + 1)) vs msI) := by
      show _ = _
      rw [HNE.out, ← Hq'.out, ← Hvs2.out, ← Hms2.out]
     have HN9 := Lib.hid hn9
     have HP9 := Lib.hid hp9
     have HA9 : Hid (∀ i, At A2 i → At A i ∨ w1.heap.size ≤ i) := fun i h => by
      rcases HA2w.out i h with h | h
      ·
       exact HA1.out i h
      ·
       exact .inr (by omega)
     have HB9 : Hid (∀ i, At B2 i → At B0 i ∨ w1.heap.size ≤ i) := fun i h => by
      rcases HB2w.out i h with h | h
      ·
       exact HB1.out i h
      ·
       exact .inr (by omega)
     have HK9 : Hid (∀ i, At A9 i → w1.heap.size ≤ i ∧ ¬ At A2 i ∧ ¬ At B2 i) := fun i h => by
      rcases hat9b i h with h | h
      ·
       have h1 := HKSb.out i h
       have h2 := HKlt.out i h
       refine ⟨h1.1, fun f => ?_, fun f => ?_⟩
       ·
        rcases HA2w.out i f with f | f
        ·
         exact h1.2.1 f
        ·
         omega
       ·
        rcases HB2w.out i f with f | f
        ·
         exact h1.2.2 f
        ·
         omega
      ·
       refine ⟨by omega, fun f => ?_, fun f => ?_⟩
       ·
        have := Hn7l.out i (.inl f); omega
       ·
        have := Hn7l.out i (.inr f); omega
     clear hn9 hp9 hpa ho9 hu9 hat9 hat9b ho8
     go_roundg (k - (j + 1))
     case measure => rw [Hg.out]; omega
     case rel => exact ⟨j + 1, A2, c2, B2, d2, A9, c9, _, vs2, ms2, rfl, by omega, rfl, rfl, rfl, by go_num, HN1, HN9, HP9, HA9, HB9, HK9, HU9⟩
    ·
     obtain rfl : k = j := by omega
     have HTK : Hid (p.kids.take k = p.kids) := List.take_of_length_le (by rw [Hk.out]; exact Nat.le_refl _)
     rw [HTK.out] at HN
     have t1 : decide (k < k) = false := by simp
     have hbox : ∀ i, At A i ∨ At B0 i → i ≠ w.heap.size ∧ i ≠ w.heap.size + 1 := fun i h => by
      rcases h with h | h
      ·
       have := HAL.out _ h; omega
      ·
       rcases hat0.out _ h with h | h
       ·
        have := HBL.out _ h; omega
       ·
        omega
     have hbr := hb0.upd hu (fun h => (hbox _ h).1 rfl)
     have hbR := hbR0.upd hu (fun h => (hbox _ h).2 rfl)
     have c4r := hbr.cell 4
     have f4r := hbr.frozen 4
     obtain ⟨X1, HX1⟩ := nm (wr.setCell ⟨w.heap.size, 4, none⟩ (.slice KS k ks))
     have x1 := HX1.out
     have hx1 : Blk X1 w.heap.size 30 #[.int .i64 v, .int .i64 op, .int .i64 imm, .int .i64 iv1, .slice KS k ks] := by rw [← x1]; simpa using hbr.set_ 4 (.slice KS k ks)
     have v1 : Upd (· = w.heap.size) wr X1 := by rw [← x1]; exact updCell _ _ _ _
     have hxR := hbR.upd v1 (by omega)
     have k0 := hx1.cell 0
     have k1 := hx1.cell 1
     have k2 := hx1.cell 2
     have k3 := hx1.cell 3
     have k4 := hx1.cell 4
     have r0 := hxR.cell 0
     have r1 := hxR.cell 1
     have r2 := hxR.cell 2
     have r3 := hxR.cell 3
     have r4 := hxR.cell 4
     have rf := hxR.frozen
     have HXR := Lib.hid hxR
     have Hbox := Lib.hid hbox
     clear hbox hxR hbr hbR hx1
     go_wp2_with fail
     rw [set5_eq]
     refine bodyPost_ret (results_cell_row_tmps rfl _ _ (w.heap.size + 1) 30 _ (0, 0) _ rfl (set5_blk HXR.out _ _ _ _ _) Try.underlying30 rfl (by kernel_rfl)) rfl ?_
     have uS := set5_upd X1 (w.heap.size + 1) (.int .i64 v) (.int .i64 op) (.int .i64 imm) (.int .i64 iv1) (.slice KS k ks)
     obtain ⟨X2, HX2⟩ := nm (set5 X1 (w.heap.size + 1) (.int .i64 v) (.int .i64 op) (.int .i64 imm) (.int .i64 iv1) (.slice KS k ks))
     rw [HX2.out] at uS ⊢
     have UX : Upd (fun i => i = w.heap.size ∨ i = w.heap.size + 1) wr X2 := (v1.mono (fun _ _ h => .inl h)).trans uS (fun _ _ h => .inr h)
     have hlen := numL_len p.kids vs msI
     rw [← HN.out, Hk.out] at hlen
     simp only at hlen
     have hRe : R = (.mk v op imm iv1 L, vs1, ms1) := by rw [HR2.out, ← HN.out]
     have hF0w : ∀ i, F0 i → i < w.heap.size := fun i h => by rw [HF0e.out] at h; exact h.2
     have hF0F : ∀ i, F0 i → F i := fun i h => by rw [HF0e.out] at h; exact h.1
     have hA1 : ∀ i, At A1 i → i ≠ w.heap.size ∧ i ≠ w.heap.size + 1 := fun i h => by
      rcases HA1.out i h with h | h
      ·
       have := HAL.out _ h; omega
      ·
       omega
     have hB1 : ∀ i, At B1 i → (At B i ∨ w.heap.size + 2 ≤ i) := fun i h => by
      rcases HB1.out i h with h | h
      ·
       exact hat0.out _ h
      ·
       exact .inr (by omega)
     have hB1n : ∀ i, At B1 i → i ≠ w.heap.size ∧ i ≠ w.heap.size + 1 := fun i h => by
      rcases hB1 i h with h | h
      ·
       have := HBL.out _ h; omega
      ·
       omega
     have hpr := HPO.out.mono (G' := fun i => (F0 i ∨ w.heap.size + 2 ≤ i) ∧ ¬ At A1 i ∧ ¬ At B1 i) (fun _ _ h => h)
     have hp2 := hpr.upd UX (fun i h e => by have := (HKS.out i h).1; omega) (fun i _ h e => by
      rcases h.1 with h | h
      ·
       have := hF0w i h; omega
      ·
       omega)
     rw [hRe]
     refine ⟨KS, ks, A1, c1, B1, d1, ?_, ?_, HNS1.out.upd UX (fun i h e => by have := hA1 i h; omega) (fun i h e => by have := hB1n i h; omega), fun i h => ?_, fun i h => ?_, ?_⟩
     ·
      show _ = Ending.returned (.tuple #[.agg #[_, _, _, _, .slice KS L.length ks], .slice _ vs1.length _, .slice _ ms1.length _])
      rw [hlen]; rfl
     ·
      exact hp2.view (fun i h => ⟨.inr (by have := (HKS.out i h).1; omega), (HKS.out i h).2⟩) (fun i _ h => ⟨by
       rcases h.1 with h | h
       ·
        exact .inl (hF0F i h)
       ·
        exact .inr (by omega), h.2⟩) _ _ _ _
     ·
      rcases HA1.out i h with h | h
      ·
       exact .inl h
      ·
       exact .inr (by omega)
     ·
      rcases hB1 i h with h | h
      ·
       exact .inl h
      ·
       exact .inr (by omega)
     ·
      have h1 : Upd (fun i => At A i ∨ At B i) w w1 := (hU0.mono (fun _ _ f => f.elim)).trans hu0 (fun i h e => by
       rcases e with e | e
       ·
        exact .inr e
       ·
        omega)
      have h2 := h1.trans hu (fun i h e => by
       rcases e with e | e
       ·
        exact .inl e
       ·
        rcases hat0.out i e with e | e
        ·
         exact .inr e
        ·
         omega)
      exact h2.trans UX (fun i h e => by omega)
end Go.Proofs.Ytblkgjdhaibhgaa
namespace Go.Proofs.Ytblkgjdhaibhgaa
open Go.RowKit
theorem NS.none_ (w : World) : NS w none 0 [] none 0 [] := ⟨Own.none_, Own.none_, fun _ h => (At.none_ h).elim⟩
theorem Numbered_c (p : Pt) (w : World) (F : Nat → Prop) (KA : Option Addr) (kc : Nat) (hp : PtK w F p KA kc) (hs : p.size ≤ 1000000) :
  Calls Try.prog 25 #[pv p KA kc] w fun e w' => ∃ (KA' : Option Addr) (kc' : Nat), e = .returned (.tuple #[pv (numF p [] []).1 KA' kc', .int .i64 (numF p [] []).2.1.length, .int .i64 (numF p [] []).2.2.length]) ∧
   PtK w' (fun k => F k ∨ w.heap.size ≤ k) (numF p [] []).1 KA' kc' ∧ Upd Non w w' := by
 have hp1 := PtK.mono (G := fun k => F k ∧ k < w.heap.size) (fun k hk h => ⟨h, hk⟩) p KA kc hp
 obtain ⟨W, HW⟩ := nm (w.alloc (.cells #[.int .i64 p.v, .int .i64 p.op, .int .i64 p.imm, .int .i64 p.iv, .slice KA p.kids.length kc] 30))
 have hU : Upd Non w W := by rw [← HW.out]; exact Upd.refl.alloc _
 have hb : Blk W w.heap.size 30 #[.int .i64 p.v, .int .i64 p.op, .int .i64 p.imm, .int .i64 p.iv, .slice KA p.kids.length kc] := by rw [← HW.out]; exact Blk.new _ _ _
 have hsW : W.heap.size = w.heap.size + 1 := by rw [← HW.out]; simp
 obtain ⟨W2, HW2⟩ := nm (W.alloc (.cells #[.int .i64 0, .int .i64 0, .int .i64 0, .int .i64 0, .slice none 0 0] 30))
 have hU2 : Upd Non W W2 := by rw [← HW2.out]; exact Upd.refl.alloc _
 have hb2 : Blk W2 (w.heap.size + 1) 30 #[.int .i64 0, .int .i64 0, .int .i64 0, .int .i64 0, .slice none 0 0] := by rw [← HW2.out, ← hsW]; exact Blk.new _ _ _
 have hsW2 : W2.heap.size = w.heap.size + 2 := by rw [← HW2.out]; simp [hsW]
 have hb := hb.upd hU2 (fun f => f)
 have hU0 := hU.then_non hU2
 have e0 := HW.out
 have e2 := HW2.out
 have hpW := PtK.upd hU0 (fun _ _ _ f => f) p KA kc hp1
 have hls := numF_len p [] []
 have C := Lib.hid (numbered_c p W2 _ KA kc none 0 none 0 [] [] hpW (fun _ _ => ⟨At.none_, At.none_⟩) (NS.none_ _) (by simpa using hs) (by simpa using hs))
 simp only [List.length_nil, Nat.zero_add] at hls
 have c0 := hb.cell 0
 have c1 := hb.cell 1
 have c2 := hb.cell 2
 have c3 := hb.cell 3
 have c4 := hb.cell 4
 have f0 := hb.frozen
 unfold pv at C ⊢
 go_enter Try.func25, Try.ntmps25
 go_wp2_with fail
 refine C.out.mono ?_
 rintro e w3 ⟨KA', kc', A', c', B', d', rfl, hp3, hn3, -, -, hu3⟩
 obtain ⟨R, HR⟩ := nm (numF p [] [])
 rw [HR.out] at hp3 hn3 hls ⊢
 unfold pv
 obtain ⟨q, Hq⟩ := nm R.1
 obtain ⟨a, Ha⟩ := nm R.2.1.length
 obtain ⟨b, Hb⟩ := nm R.2.2.length
 rw [Hq.out] at hp3 ⊢
 rw [Ha.out, Hb.out]
 have ha : a ≤ 1000000 := by rw [← Ha.out]; omega
 have hbl : b ≤ 1000000 := by rw [← Hb.out]; omega
 have hu3s := hu3.size
 have hbx := hb2.upd hu3 (fun h => by rcases h with h | h <;> exact At.none_ h)
 clear hn3 hls c0 c1 c2 c3 c4 f0 hb2 C
 go_upto_region 2 with fail
 have hal : Upd Non w3 (w3.alloc (.cells #[.int .i64 q.v, .int .i64 q.op, .int .i64 q.imm, .int .i64 q.iv, .slice KA' q.kids.length kc'] 30)) := Upd.refl.alloc _
 have b5 := Blk.new w3 30 #[.int .i64 q.v, .int .i64 q.op, .int .i64 q.imm, .int .i64 q.iv, .slice KA' q.kids.length kc']
 obtain ⟨w5, Hw5⟩ := nm (w3.alloc (.cells #[.int .i64 q.v, .int .i64 q.op, .int .i64 q.imm, .int .i64 q.iv, .slice KA' q.kids.length kc'] 30))
 rw [Hw5.out] at hal b5 ⊢
 have s4 := hal.size
 have hbx := hbx.upd hal (fun f => f)
 have c0 := b5.cell 0
 have c1 := b5.cell 1
 have c2 := b5.cell 2
 have c3 := b5.cell 3
 have c4 := b5.cell 4
 have r0 := hbx.cell 0
 have r1 := hbx.cell 1
 have r2 := hbx.cell 2
 have r3 := hbx.cell 3
 have r4 := hbx.cell 4
 have rf := hbx.frozen
 have HB := Lib.hid hbx
 have HP := Lib.hid hp3
 clear hbx b5 hp3
 go_wp2_with fail
 rw [set5_eq]
 refine bodyPost_ret (results_cell_row_tmps rfl _ _ (w.heap.size + 1) 30 _ (0, 0) _ rfl (set5_blk HB.out _ _ _ _ _) Try.underlying30 rfl (by kernel_rfl)) rfl ?_
 have u6 := set5_upd w5 (w.heap.size + 1) (.int .i64 q.v) (.int .i64 q.op) (.int .i64 q.imm) (.int .i64 q.iv) (.slice KA' q.kids.length kc')
 have s6 := u6.size
 rw [HR.out, Hq.out, Ha.out, Hb.out]
 refine ⟨KA', kc', rfl, ?_, ?_⟩
 ·
  exact PtK.mono (fun k _ h => by rcases h with h | h; exact .inl h.1; exact .inr (by omega)) _ _ _ (PtK.upd u6 (fun k hk h e => by omega) _ _ _ (PtK.upd hal (fun _ _ _ f => f) _ _ _ (PtK.mono (G := fun k => (F k ∧ k < w.heap.size) ∨ w.heap.size + 2 ≤ k) (fun k hk h => by rcases h.1 with h | h; exact .inl h; exact .inr (by omega)) _ _ _ HP.out)))
 ·
  have h1 := (hU0.then_non (hu3.mono (fun _ _ h => by rcases h with h | h <;> exact (At.none_ h).elim))).then_non hal
  exact h1.trans u6 (fun k hk h => by omega)
end Go.Proofs.Ytblkgjdhaibhgaa
