/-
  Lemmas and walks that the claim rests on, part 13 (packed by a program).
-/
import Derived.Test.YtblkgjdhaibhgaaGreatA12
import Derived.Test.YtblkgjdhaibhgaaGreatA6
import Derived.Test.YtblkgjdhaibhgaaGreatA9
import Derived.Test.YtblkgjdhaibhgaaGreatA1
import Derived.Test.YtblkgjdhaibhgaaGreatRows
import Derived.ProofKit
import Derived.OpenShut
import Derived.SizedLaws
namespace Go.Proofs.YtblkgjdhaibhgaaGreat
open Go.RowKit
def riB (r : Rl) : Bool := (nodes r.l).all (fun q => decide (-9223372036854775808 ≤ q.imm ∧ q.imm ≤ 9223372036854775807)) && (nodes r.r).all (fun q => decide (-9223372036854775808 ≤ q.imm ∧ q.imm ≤ 9223372036854775807)) && r.conds.all (fun c => decide (-9223372036854775808 ≤ c.n ∧ c.n ≤ 9223372036854775807))
theorem riB_ok {r : Rl} (h : riB r = true) : RlI r := by
 simp only [riB, Bool.and_eq_true, List.all_eq_true, decide_eq_true_eq] at h;exact ⟨fun q hq => h.1.1 q hq, fun q hq => h.1.2 q hq, fun q hq => h.2 q hq⟩
theorem szB_ok {r : Rl} (h : szB r = true) : RlSz r := by
 simp only [szB, Bool.and_eq_true, decide_eq_true_eq] at h;exact ⟨h.1.1.1, h.1.1.2, h.1.2, h.2⟩
theorem ktl (l : Bs) : (kstr l).toList = l := by rw [ByteArray.toList_eq]; rfl
def exT1 : Bs := [114, 117, 108, 101, 32, 122, 101, 114, 111, 58, 32, 40, 97, 100, 100, 32, 63, 120, 32, 48, 41, 32, 61, 62, 32, 63, 120, 59, 32, 47, 47, 32, 115, 111]
def exT2 : Bs := [97, 120, 105, 111, 109, 32, 110, 111, 116, 104, 105, 110, 103, 59]
def exP : Bs := [114, 117, 108, 101, 32, 122, 101, 114, 111, 58, 32, 40, 97, 100, 100, 32, 63, 97, 32, 48, 41, 32, 61, 62, 32, 63, 97, 59, 10]
theorem ex1 : (match parseF exT1 with | .ok [r] => decide (kx r.name = [122, 101, 114, 111]) && decide (r.vars = 1) && decide (printF [r] = exP) && szB r && riB r | _ => false) = true := by decide +kernel
theorem ex2 : (match parseF exT2 with | .error e => decide (e.1 = 3) && decide (e.2 = 6) | _ => false) = true := by decide +kernel
theorem ex1' : ∃ r, parseF exT1 = .ok [r] ∧ r.name = kstr [122, 101, 114, 111] ∧ r.vars = 1 ∧ printF [r] = exP ∧ RlSz r ∧ RlI r := by
 have h := ex1
 split at h
 ·
  rename_i r he;simp only [Bool.and_eq_true, decide_eq_true_eq] at h;exact ⟨r, he, by apply kx_inj; rw [kx_kstr]; exact h.1.1.1.1, h.1.1.1.2, h.1.1.2, szB_ok h.1.2, riB_ok h.2⟩
 ·
  cases h
theorem ex2' : parseF exT2 = .error (3, 6) := by
 have h := ex2
 split at h
 ·
  rename_i e he;simp only [Bool.and_eq_true, decide_eq_true_eq] at h;rw [he];obtain ⟨a, b⟩ := e;rw [show a = 3 from h.1, show b = 6 from h.2]
 ·
  cases h
set_option maxRecDepth 100000 in
set_option maxHeartbeats 1000000 in
theorem RuExamples_c (w : World) : Calls Tryz.prog 6 #[] w fun e w' => e = .returned (.bool true) ∧ Upd Non w w' := by
 obtain ⟨r, hp, hnm, hvr, hpr, hsz, hri⟩ := ex1';have C1 := Lib.hid (rParse_all (kstr exT1) w);rw [kx_kstr, hp] at C1;have C2 := Lib.hid (fun W => rParse_all (kstr exT2) W);have CX := Lib.hid (fun W => rAxioms_c W);have HP := Lib.hid hpr;have HS := Lib.hid hsz;have HI := Lib.hid hri;clear hp hpr hsz hri;go_enter Tryz.func6, Tryz.ntmps6
 go_wp2_with fail
 refine C1.out.mono ?_;rintro e w1 ⟨u1, h⟩
 rcases h with ⟨er, h, _⟩ | ⟨Q, A, c, h, rfl, hv, hle⟩
 ·
  cases h
 injection h with h
 subst h;have hs1 := u1.size;have HU1 := Lib.hid u1;have HV := Lib.hid hv;clear u1 hv hle;obtain ⟨W2, HW2⟩ := nm (w1.alloc (.cells #[.int .i64 0, .int .i64 0] 31))
 have u2 : Upd Non w1 W2 := by rw [← HW2.out]; exact Upd.refl.alloc _
 have b2 : Blk W2 w1.heap.size 31 #[.int .i64 0, .int .i64 0] := by rw [← HW2.out]; exact Blk.new _ _ _
 have C22 := Lib.hid (C2.out W2);rw [kx_kstr, ex2'] at C22
 go_upto_region 2 with fail
 rw [HW2.out]
 go_wp2_with fail
 refine C22.out.mono ?_;rintro e w3 ⟨u3, h⟩
 rcases h with ⟨er, h, rfl⟩ | ⟨Q, A, c, h, _⟩
 rotate_left
 ·
  cases h
 injection h with h
 subst h;have b3 := b2.upd u3 (fun f => f);obtain ⟨W4, HW4⟩ := nm (w3.alloc (.cells #[.int .i64 3, .int .i64 6] 31))
 have u4 : Upd Non w3 W4 := by rw [← HW4.out]; exact Upd.refl.alloc _
 have b4 : Blk W4 w3.heap.size 31 #[.int .i64 3, .int .i64 6] := by rw [← HW4.out]; exact Blk.new _ _ _
 have b5 := b3.upd u4 (fun f => f);have U4 := (u2.then_non u3).then_non u4;have HB4 := Lib.hid b4;have HB5 := Lib.hid b5;have HU4 := Lib.hid U4;have hV := HV.out.upd U4 (fun _ _ _ f => f);obtain ⟨b, o, a, rfl, _, hbw, hat, _⟩ := hV.at_ (i := 0) (by simp)
 have CP := Lib.hid (rPrint_c W4 _ _ c [r] hV (fun x hx => by rw [List.mem_singleton] at hx; rw [hx]; exact HS.out) (fun x hx => by rw [List.mem_singleton] at hx; rw [hx]; exact HI.out) (by simp))
 rw [HP.out] at CP;unfold RlAt at hat;rw [List.getElem_cons_zero, Nat.zero_mul, Nat.add_zero, hnm, hvr] at hat;obtain ⟨x0, _, _, _, _, _, _, _, _, _, _, _, x12, _⟩ := hat
 go_upto_region 3 with fail
 rw [HW4.out];have y0 := b5.cell 0;have y1 := b5.cell 1;have z0 := b4.cell 0;have z1 := b4.cell 1;clear C1 C2 C22 HW2 HW4 b2 b3 b4 b5 u2 u3 u4 U4
 have hq1 : ((kstr [122, 101, 114, 111]).toList == [122, 101, 114, 111]) = true := by rw [ktl]; rfl
 have hq2 : ((kstr exP).toList == [114, 117, 108, 101, 32, 122, 101, 114, 111, 58, 32, 40, 97, 100, 100, 32, 63, 97, 32, 48, 41, 32, 61, 62, 32, 63, 97, 59, 10]) = true := by rw [ktl]; rfl
 obtain ⟨nz, Hnz⟩ := nm (kstr [122, 101, 114, 111]);obtain ⟨ps, Hps⟩ := nm (kstr exP);rw [Hnz.out] at x0 hq1;rw [Hps.out] at CP hq2
 go_wp2_with fail
 refine CP.out.mono ?_;rintro e w5 ⟨rfl, u5⟩;have z0 := cell_upd z0 u5 (fun f => f);have z1 := cell_upd z1 u5 (fun f => f);have CA := Lib.hid (CX.out w5);have HU5 := Lib.hid (HU4.out.then_non u5);clear CP x0 x12 y0 y1
 go_wp2_with fail
 refine CA.out.mono ?_;rintro e w6 ⟨A6, c6, rfl, _, _, u6⟩;clear CA z0 z1
 go_wp2_with fail
 go_ret;exact ⟨rfl, (HU1.out.then_non HU5.out).then_non u6⟩
theorem nodesL_of {q : Pt} : ∀ {ks : List Pt}, q ∈ nodesL ks → ∃ k ∈ ks, q ∈ nodes k
 | [], h => by simp [nodesL] at h
 | k :: ks, h => by
  rw [nodesL, List.mem_append] at h
  rcases h with h | h
  ·
   exact ⟨k, List.mem_cons_self, h⟩
  ·
   obtain ⟨k2, h1, h2⟩ := nodesL_of h;exact ⟨k2, List.mem_cons_of_mem _ h1, h2⟩
theorem PI.mk {v op imm iv : Int} {ks : List Pt} (hi : I64 imm) (h : ∀ k ∈ ks, PI k) : PI (.mk v op imm iv ks) := by
 intro q hq;rw [nodes_eq, List.mem_cons] at hq
 rcases hq with rfl | hq
 ·
  exact hi
 ·
  obtain ⟨k, h1, h2⟩ := nodesL_of hq;exact h k h1 q h2
structure AxOk (x : Bs × Bs) (r : Rl) : Prop where
 eq : axiomF x.1 = some r
 sz : RlSz r
 i : RlI r
 v : implF r = true
 rt : Rt r r.vars.toNat r.imms.toNat
 nm : r.name = kstr x.1
structure RtOk (r : Rl) : Prop where
 v : implF r = true
 rt : Rt r r.vars.toNat r.imms.toNat
theorem lex_rules : ∀ L : List Rl, (∀ r ∈ L, Rt6 r) → Lex (fmtRs L) (L.map wR).flatten
 | [], _ => Lex.nil
 | r :: L, h => by
  have h1 := (lex_rule (h r List.mem_cons_self)).app (lex_rules L fun x hx => h x (List.mem_cons_of_mem _ hx));rw [List.map_cons, List.flatten_cons];exact h1
theorem parse_print {L : List Rl} (h : ∀ r ∈ L, RtOk r) (hn : (L.map (·.name)).Nodup) (hl : L.length ≤ 160) (hs : (fmtRs L).length ≤ 20000) : parseF (fmtRs L) = .ok L := by
 have e1 : ((L.map fun r => (wR r, r)).map (·.1)) = L.map wR := by rw [List.map_map]; rfl
 have e2 : ((L.map fun r => (wR r, r)).map (·.2)) = L := by rw [List.map_map]; exact List.map_id L
 have := parse_file (ax := axiomF) (s := fmtRs L) (cs := L.map fun r => (wR r, r)) (by rw [e1]; exact lex_rules L fun r hr => (h r hr).rt.t) hs (fun c hc => by
  obtain ⟨r, hr, rfl⟩ := List.mem_map.1 hc
  exact ⟨rule_rt (h r hr).rt, (h r hr).v⟩) (by rw [e2]; exact hn) (by rw [List.length_map]; exact hl)
 rw [e2] at this;exact this
theorem print_ok {L : List Rl} (h : ∀ r ∈ L, RtOk r) : printF L = fmtRs L := by
 unfold printF;rw [if_pos (List.all_eq_true.2 fun r hr => (h r hr).v)]
def AxRs (S : List (Bs × Bs)) (Q : List Rl) : Prop := Q.length = S.length ∧ ∀ i (h : i < S.length) (h2 : i < Q.length), AxOk S[i] Q[i]
theorem AxRs.nil : AxRs [] [] := ⟨rfl, fun i h => by simp at h⟩
theorem AxRs.snoc {S : List (Bs × Bs)} {Q : List Rl} (h : AxRs S Q) {x : Bs × Bs} {r : Rl} (k : AxOk x r) : AxRs (S ++ [x]) (Q ++ [r]) := by
 refine ⟨by simp [h.1], fun i h1 h2 => ?_⟩;have hl := h.1
 rcases Nat.lt_or_ge i S.length with q | q
 ·
  rw [List.getElem_append_left q, List.getElem_append_left (by omega)];exact h.2 i q (by omega)
 ·
  have e : i = S.length := by simp at h1; omega
  subst e;rw [List.getElem_append_right (Nat.le_refl _), List.getElem_append_right (by omega)]
  simpa [hl] using k
theorem sum_sub {α : Type} (f : α → Nat) {a b : List α} (h : a.Sublist b) : (a.map f).sum ≤ (b.map f).sum := by
 induction h with
 | slnil => exact Nat.le_refl _
 | cons x _ ih => simp only [List.map_cons, List.sum_cons]; omega
 | cons_cons x _ ih => simp only [List.map_cons, List.sum_cons]; omega
section
variable {T : List (Bs × Nat)} {fin n : Nat} {ax : Bs → Option Rl}
theorem item_pos {x y : PS} {o : Option Rl} {m : Nat} (h : itemF T fin ax x = .ok ((o, m), y)) : m = offF T fin (x.i + 1) := by
 unfold itemF at h
 split at h
 ·
  split at h
  ·
   cases h
  ·
   split at h
   ·
    cases h
   ·
    injection h with h; injection h with h _; injection h with _ h; exact h.symm
 ·
  split at h
  ·
   cases h
  ·
   rename_i y1 h1
   have e : y1.i = x.i + 1 := by
    unfold expF at h1
    split at h1
    ·
     injection h1 with h1; subst h1; rfl
    ·
     cases h1
   split at h
   ·
    cases h
   ·
    injection h with h; injection h with h _; injection h with _ h; rw [e] at h; exact h.symm
theorem loop_pre {rest : List Bs} (hpos : ∀ j, j < T.length → offF T fin j < n) : ∀ (cs : List (List Bs × Rl)) (k : Nat) (vs ms : Bs) (out : List Rl) (f : Nat), (T.map (·.1)).drop k = (cs.map (·.1)).flatten ++ rest → k ≤ T.length → (∀ c ∈ cs, ItemOk ax c.1 c.2 ∧ implF c.2 = true) → ((out ++ cs.map (·.2)).map (·.name)).Nodup → (out ++ cs.map (·.2)).length ≤ 160 → T.length < f + k → ∃ vs' ms' f', loopF T fin ax n f ⟨k, vs, ms⟩ out = loopF T fin ax n f' ⟨k + (cs.map (·.1)).flatten.length, vs', ms'⟩ (out ++ cs.map (·.2)) ∧ T.length < f' + (k + (cs.map (·.1)).flatten.length)
 | [], k, vs, ms, out, f, hd, hk, _, _, _, hf => ⟨vs, ms, f, by simp, by simpa using hf⟩
 | c :: cs, k, vs, ms, out, f, hd, hk, hc, hn, hl, hf => by
  obtain ⟨⟨hne, m, y, hi, hyi⟩, himp⟩ := hc c List.mem_cons_self;have hwl : 0 < c.1.length := List.length_pos_iff.2 hne
  have hd' : (T.map (·.1)).drop k = c.1 ++ ((cs.map (·.1)).flatten ++ rest) := by rw [hd]; simp
  have hE := emb_of hd';have hlen := hE.len (by simpa using hwl);rw [List.length_map] at hlen;obtain ⟨f, rfl⟩ : ∃ g, f = g + 1 := ⟨f - 1, by omega⟩;obtain ⟨y2, h2, hy2⟩ := item_vs (vs' := vs) (ms' := ms) hi;obtain ⟨m2, h3⟩ := item_loc (fin' := fin) hE h2;have h3 : itemF T fin ax ⟨k, vs, ms⟩ = .ok ((some c.2, m2), sh k y2) := h3;rw [loopF, if_pos (hpos k (by omega)), h3];dsimp only
  have hnd : out.any (fun q => decide (q.name = c.2.name)) = false := by
   rw [List.any_eq_false];intro q hq;simp only [decide_eq_true_eq];intro e;rw [List.map_append, List.nodup_append] at hn;exact hn.2.2 q.name (List.mem_map.2 ⟨q, hq, rfl⟩) c.2.name (by simp) e
  rw [if_neg (by simp [himp]), if_neg (by simp [hnd]), if_neg (by simp at hl; omega)]
  obtain ⟨vs', ms', f', h5, h6⟩ := loop_pre (rest := rest) hpos cs (k + c.1.length) y2.vs y2.ms (out ++ [c.2]) f (by rw [← List.drop_drop, hd']; simp) (by omega) (fun d hd => hc d (List.mem_cons_of_mem _ hd)) (by simpa using hn) (by simpa using hl) (by omega)
  have e : sh k y2 = ⟨k + c.1.length, y2.vs, y2.ms⟩ := by unfold sh; rw [hy2, hyi]
  have e2 : k + ((c :: cs).map (·.1)).flatten.length = k + c.1.length + (cs.map (·.1)).flatten.length := by simp; omega
  refine ⟨vs', ms', f', ?_, by rw [e2]; exact h6⟩;rw [e, h5, e2]
  congr 1
  simp
theorem loop_dup {ax : Bs → Option Rl} (hpos : ∀ j, j < T.length → offF T fin j < n) : ∀ (cs : List (List Bs × Rl)) (k : Nat) (vs ms : Bs) (out : List Rl) (f : Nat), (T.map (·.1)).drop k = (cs.map (·.1)).flatten → k ≤ T.length → (∀ c ∈ cs, ItemOk ax c.1 c.2 ∧ implF c.2 = true ∧ 2 ≤ c.1.length) → (∃ c ∈ cs, ∃ q ∈ out, q.name = c.2.name) → (out ++ cs.map (·.2)).length ≤ 160 → T.length < f + k → ∃ j, k ≤ j ∧ j < T.length ∧ loopF T fin ax n f ⟨k, vs, ms⟩ out = .error (4, (offF T fin j : Int))
 | [], k, vs, ms, out, f, hd, hk, _, hx, _, hf => by
  obtain ⟨c, hc, _⟩ := hx
  cases hc
 | c :: cs, k, vs, ms, out, f, hd, hk, hc, hx, hl, hf => by
  obtain ⟨⟨hne, m, y, hi, hyi⟩, himp, hw2⟩ := hc c List.mem_cons_self
  have hd' : (T.map (·.1)).drop k = c.1 ++ (cs.map (·.1)).flatten := by rw [hd]; rfl
  have hE := emb_of hd';have hlen := hE.len (by simp; omega);rw [List.length_map] at hlen;obtain ⟨f, rfl⟩ : ∃ g, f = g + 1 := ⟨f - 1, by omega⟩;obtain ⟨y2, h2, hy2⟩ := item_vs (vs' := vs) (ms' := ms) hi;obtain ⟨m2, h3⟩ := item_loc (fin' := fin) hE h2;have h3 : itemF T fin ax ⟨k, vs, ms⟩ = .ok ((some c.2, m2), sh k y2) := h3;have hm := item_pos h3;rw [loopF, if_pos (hpos k (by omega)), h3]
  dsimp only;rw [if_neg (by simp [himp])]
  by_cases hnd : out.any (fun q => decide (q.name = c.2.name)) = true
  ·
   rw [if_pos hnd];exact ⟨k + 1, by omega, by omega, by rw [hm]⟩
  ·
   rw [if_neg hnd, if_neg (by simp at hl; omega)]
   have hx2 : ∃ d ∈ cs, ∃ q ∈ out ++ [c.2], q.name = d.2.name := by
    obtain ⟨d, hd2, q, hq, e⟩ := hx
    rcases List.mem_cons.1 hd2 with rfl | hd2
    ·
     exact absurd (List.any_eq_true.2 ⟨q, hq, by simpa using e⟩) hnd
    ·
     exact ⟨d, hd2, q, List.mem_append.2 (.inl hq), e⟩
   obtain ⟨j, j1, j2, h5⟩ := loop_dup hpos cs (k + c.1.length) y2.vs y2.ms (out ++ [c.2]) f (by rw [← List.drop_drop, hd']; simp) (by omega) (fun d hd => hc d (List.mem_cons_of_mem _ hd)) hx2 (by simpa using hl) (by omega)
   have e : sh k y2 = ⟨k + c.1.length, y2.vs, y2.ms⟩ := by unfold sh; rw [hy2, hyi]
   exact ⟨j, by omega, j2, by rw [e]; exact h5⟩
end
theorem Lex.two {s t : Bs} {ws us : List Bs} (h : Lex s ws) (g : Lex t us) : ∃ T1 T2 : List (Bs × Nat), goodT (toksF (s ++ t)) = T1 ++ T2 ∧ T1.map (·.1) = ws ∧ T2.map (·.1) = us ∧ finT (toksF (s ++ t)) = (s ++ t).length ∧ (∀ x ∈ T1, x.2 < s.length) ∧ ∀ x ∈ T2, s.length ≤ x.2 ∧ x.2 < s.length + t.length := by
 obtain ⟨T1, e1, m1, p1, l1⟩ := h t 0 ((s ++ t).length + 1) (by simp);obtain ⟨T2, e2, m2, p2, l2⟩ := g [] (0 + s.length) ((s ++ t).length + 1) (by simp; omega);rw [List.append_nil] at e2
 have e3 : toksF (s ++ t) = T1 ++ T2 ++ [⟨[], (s ++ t).length, true⟩] := by
  unfold toksF;rw [e1, e2, Nat.zero_add, ← List.length_append, List.append_assoc];rfl
 have key : ∀ (T : List Tok) (z : Nat), (∀ x ∈ T, x.bad = false) → goodT (T ++ [⟨[], z, true⟩]) = T.map (fun x => (x.s, x.pos)) ∧ finT (T ++ [⟨[], z, true⟩]) = z := by
  intro T z
  induction T with
  | nil => intro _; exact ⟨rfl, rfl⟩
  | cons x T ih =>
   intro hx;obtain ⟨h1, h2⟩ := ih (fun y hy => hx y (List.mem_cons_of_mem _ hy));have hb := hx x List.mem_cons_self;constructor
   ·
    rw [List.cons_append, goodT, if_neg (by rw [hb]; decide), h1]; rfl
   ·
    rw [List.cons_append, finT, if_neg (by rw [hb]; decide), h2]
 obtain ⟨k1, k2⟩ := key (T1 ++ T2) (s ++ t).length (fun x hx => by
  rcases List.mem_append.1 hx with hx | hx
  ·
   exact (p1 x hx).1
  ·
   exact (p2 x hx).1)
 rw [e3]
 refine ⟨T1.map (fun x => (x.s, x.pos)), T2.map (fun x => (x.s, x.pos)), by rw [k1, List.map_append], by rw [← m1, List.map_map]; rfl, by rw [← m2, List.map_map]; rfl, k2, fun x hx => ?_, fun x hx => ?_⟩
 ·
  obtain ⟨y, hy, rfl⟩ := List.mem_map.1 hx;have := (p1 y hy).2.2
  simpa using this
 ·
  obtain ⟨y, hy, rfl⟩ := List.mem_map.1 hx;have := (p2 y hy).2
  simpa using this
theorem fmtRs_app : ∀ a b : List Rl, fmtRs (a ++ b) = fmtRs a ++ fmtRs b
 | [], b => rfl
 | r :: a, b => by
  have e : fmtRs (r :: (a ++ b)) = fmtR r ++ fmtRs (a ++ b) := rfl;have e2 : fmtRs (r :: a) = fmtR r ++ fmtRs a := rfl;rw [List.cons_append, e, e2, fmtRs_app a b, List.append_assoc]
theorem two_ok {p q : List Rl} (hp : ∀ r ∈ p, RtOk r) (hq : ∀ r ∈ q, RtOk r) (hn : ((p ++ q).map (·.name)).Nodup) (hl : (p ++ q).length ≤ 160) (hs : (fmtRs p).length + (fmtRs q).length ≤ 20000) : parseF (fmtRs p ++ fmtRs q) = .ok (p ++ q) := by
 rw [← fmtRs_app];refine parse_print (fun r hr => ?_) hn hl (by rw [fmtRs_app, List.length_append]; exact hs)
 rcases List.mem_append.1 hr with hr | hr
 ·
  exact hp r hr
 ·
  exact hq r hr
theorem two_dup {p q : List Rl} (hp : ∀ r ∈ p, RtOk r) (hq : ∀ r ∈ q, RtOk r) (hn : (p.map (·.name)).Nodup) (hx : ∃ c ∈ q, ∃ r ∈ p, r.name = c.name) (hl : (p ++ q).length ≤ 160) (hs : (fmtRs p).length + (fmtRs q).length ≤ 20000) : ∃ j : Nat, parseF (fmtRs p ++ fmtRs q) = .error (4, (j : Int)) ∧ (fmtRs p).length ≤ j ∧ j < (fmtRs p).length + (fmtRs q).length := by
 obtain ⟨T1, T2, h1, h2, h3, h4, h5, h6⟩ := (lex_rules p fun r hr => (hp r hr).rt.t).two (lex_rules q fun r hr => (hq r hr).rt.t)
 have ep1 : ((p.map fun r => (wR r, r)).map (·.1)) = p.map wR := by rw [List.map_map]; rfl
 have ep2 : ((p.map fun r => (wR r, r)).map (·.2)) = p := by rw [List.map_map]; exact List.map_id p
 have eq1 : ((q.map fun r => (wR r, r)).map (·.1)) = q.map wR := by rw [List.map_map]; rfl
 have eq2 : ((q.map fun r => (wR r, r)).map (·.2)) = q := by rw [List.map_map]; exact List.map_id q
 have hwl := (lex_rules (p ++ q) (fun r hr => by
  rcases List.mem_append.1 hr with hr | hr
  ·
   exact (hp r hr).rt.t
  ·
   exact (hq r hr).rt.t)).len
 have hTl : (T1 ++ T2).length ≤ (fmtRs p ++ fmtRs q).length := by
  rw [← fmtRs_app];refine Nat.le_trans (Nat.le_of_eq ?_) hwl;rw [List.map_append, List.flatten_append, ← h2, ← h3, List.length_append, List.length_append, List.length_map, List.length_map]
 have hpos : ∀ j, j < (T1 ++ T2).length → offF (T1 ++ T2) (fmtRs p ++ fmtRs q).length j < (fmtRs p ++ fmtRs q).length := fun j hj => by
  unfold offF;rw [List.getElem?_eq_getElem hj, List.length_append];dsimp only;have := List.getElem_mem hj
  rcases List.mem_append.1 this with g | g
  ·
   have := h5 _ g; omega
  ·
   have := h6 _ g; omega
 unfold parseF parseG;rw [if_neg (by rw [List.length_append]; omega), h1, h4]
 have T1l : (p.map wR).flatten.length = T1.length := by rw [← h2, List.length_map]
 obtain ⟨vs', ms', f', g1, g2⟩ := loop_pre (ax := axiomF) (rest := (q.map wR).flatten) hpos (p.map fun r => (wR r, r)) 0 [] [] [] ((fmtRs p ++ fmtRs q).length + 1) (by rw [ep1, ← h2, ← h3, List.drop_zero, List.map_append]) (Nat.zero_le _) (fun c hc => by
  obtain ⟨r, hr, rfl⟩ := List.mem_map.1 hc
  exact ⟨rule_rt (hp r hr).rt, (hp r hr).v⟩) (by rw [ep2]; simpa using hn) (by rw [ep2]; simp at hl ⊢; omega) (by omega)
 rw [g1];rw [ep1, Nat.zero_add, T1l] at g2 ⊢
 obtain ⟨j, j1, j2, g3⟩ := loop_dup (ax := axiomF) hpos (q.map fun r => (wR r, r)) T1.length vs' ms' ([] ++ (p.map fun r => (wR r, r)).map (·.2)) f' (by rw [eq1, ← h3, List.map_append, List.drop_left' (by rw [List.length_map])]) (by simp) (fun c hc => by
  obtain ⟨r, hr, rfl⟩ := List.mem_map.1 hc
  exact ⟨rule_rt (hq r hr).rt, (hq r hr).v, by simp [wR]⟩) (by
  obtain ⟨c, hc, r, hr, e⟩ := hx
  exact ⟨(wR c, c), List.mem_map.2 ⟨c, hc, rfl⟩, r, by rw [ep2]; exact hr, e⟩) (by rw [ep2, eq2]; simpa using hl) g2
 rw [g3];refine ⟨_, rfl, ?_⟩;unfold offF;rw [List.getElem?_eq_getElem j2];dsimp only;rw [List.getElem_append_right j1];exact h6 _ (List.getElem_mem _)
def krB : Bs := [114, 117, 108, 101, 32, 97, 100, 100, 45, 116, 117, 114, 110, 58, 32, 40, 97, 100, 100, 32, 63, 97, 32, 63, 98, 41, 32, 61, 62, 32, 40, 97, 100, 100, 32, 63, 98, 32, 63, 97, 41, 59, 10, 114, 117, 108, 101, 32, 97, 100, 100, 45, 122, 101, 114, 111, 58, 32, 40, 97, 100, 100, 32, 63, 97, 32, 48, 41, 32, 61, 62, 32, 63, 97, 59, 10, 114, 117, 108, 101, 32, 97, 100, 100, 45, 114, 111, 119, 58, 32, 40, 97, 100, 100, 32, 40, 97, 100, 100, 32, 63, 97, 32, 63, 98, 41, 32, 63, 99, 41, 32, 61, 62, 32, 40, 97, 100, 100, 32, 63, 97, 32, 40, 97, 100, 100, 32, 63, 98, 32, 63, 99, 41, 41, 59, 10, 114, 117, 108, 101, 32, 109, 117, 108, 45, 116, 119, 111, 58, 32, 40, 109, 117, 108, 32, 63, 97, 32, 50, 41, 32, 61, 62, 32, 40, 97, 100, 100, 32, 63, 97, 32, 63, 97, 41, 59, 10, 114, 117, 108, 101, 32, 109, 117, 108, 45, 115, 104, 108, 58, 32, 40, 109, 117, 108, 32, 63, 97, 32, 52, 41, 32, 61, 62, 32, 40, 115, 104, 108, 32, 63, 97, 32, 50, 41, 59, 10, 114, 117, 108, 101, 32, 115, 117, 98, 45, 115, 101, 108, 102, 58, 32, 40, 115, 117, 98, 32, 63, 97, 32, 63, 97, 41, 32, 61, 62, 32, 48, 59, 10, 114, 117, 108, 101, 32, 120, 111, 114, 45, 115, 101, 108, 102, 58, 32, 40, 120, 111, 114, 32, 63, 97, 32, 63, 97, 41, 32, 61, 62, 32, 48, 59, 10, 114, 117, 108, 101, 32, 97, 110, 100, 45, 115, 101, 108, 102, 58, 32, 40, 97, 110, 100, 32, 63, 97, 32, 63, 97, 41, 32, 61, 62, 32, 63, 97, 59, 10, 114, 117, 108, 101, 32, 110, 101, 103, 45, 110, 111, 116, 58, 32, 40, 110, 101, 103, 32, 63, 97, 41, 32, 61, 62, 32, 40, 97, 100, 100, 32, 40, 110, 111, 116, 32, 63, 97, 41, 32, 49, 41, 59, 10, 114, 117, 108, 101, 32, 97, 100, 100, 45, 115, 112, 108, 105, 116, 58, 32, 40, 97, 100, 100, 32, 63, 97, 32, 63, 98, 41, 32, 61, 62, 32, 40, 97, 100, 100, 32, 40, 120, 111, 114, 32, 63, 97, 32, 63, 98, 41, 32, 40, 115, 104, 108, 32, 40, 97, 110, 100, 32, 63, 97, 32, 63, 98, 41, 32, 49, 41, 41, 59, 10, 114, 117, 108, 101, 32, 101, 113, 45, 115, 101, 108, 102, 58, 32, 40, 101, 113, 32, 63, 97, 32, 63, 97, 41, 32, 61, 62, 32, 49, 59, 10, 114, 117, 108, 101, 32, 108, 116, 45, 115, 101, 108, 102, 58, 32, 40, 108, 116, 32, 63, 97, 32, 63, 97, 41, 32, 61, 62, 32, 48, 59, 10, 114, 117, 108, 101, 32, 110, 101, 45, 122, 101, 114, 111, 58, 32, 40, 110, 101, 32, 63, 97, 32, 48, 41, 32, 61, 62, 32, 49, 32, 105, 102, 32, 110, 111, 110, 122, 101, 114, 111, 32, 63, 97, 59, 10, 114, 117, 108, 101, 32, 108, 116, 45, 108, 101, 97, 115, 116, 58, 32, 40, 108, 116, 32, 63, 97, 32, 48, 41, 32, 61, 62, 32, 48, 32, 105, 102, 32, 108, 101, 97, 115, 116, 32, 63, 97, 32, 48, 59, 10, 114, 117, 108, 101, 32, 115, 101, 108, 45, 115, 97, 109, 101, 58, 32, 40, 115, 101, 108, 32, 63, 97, 32, 63, 98, 32, 63, 98, 41, 32, 61, 62, 32, 63, 98, 59, 10, 114, 117, 108, 101, 32, 101, 113, 45, 97, 112, 97, 114, 116, 58, 32, 40, 101, 113, 32, 63, 97, 32, 63, 98, 41, 32, 61, 62, 32, 48, 32, 105, 102, 32, 97, 112, 97, 114, 116, 32, 63, 97, 32, 63, 98, 59, 10, 97, 120, 105, 111, 109, 32, 100, 105, 118, 45, 111, 110, 101, 59, 10, 97, 120, 105, 111, 109, 32, 100, 105, 118, 45, 115, 101, 108, 102, 59, 10, 97, 120, 105, 111, 109, 32, 114, 101, 109, 45, 115, 101, 108, 102, 59, 10, 97, 120, 105, 111, 109, 32, 110, 101, 101, 100, 45, 116, 114, 117, 101, 59, 10, 97, 120, 105, 111, 109, 32, 110, 101, 101, 100, 45, 116, 119, 105, 99, 101, 59, 10, 97, 120, 105, 111, 109, 32, 108, 111, 97, 100, 45, 115, 116, 111, 114, 101, 59, 10, 97, 120, 105, 111, 109, 32, 108, 111, 97, 100, 45, 97, 112, 97, 114, 116, 59, 10, 97, 120, 105, 111, 109, 32, 108, 111, 97, 100, 45, 111, 116, 104, 101, 114, 59, 10, 97, 120, 105, 111, 109, 32, 108, 111, 97, 100, 45, 110, 101, 101, 100, 59, 10, 97, 120, 105, 111, 109, 32, 108, 111, 97, 100, 45, 111, 117, 116, 59, 10, 97, 120, 105, 111, 109, 32, 115, 116, 111, 114, 101, 45, 108, 111, 97, 100, 59, 10, 97, 120, 105, 111, 109, 32, 114, 101, 116, 45, 111, 117, 116, 59, 10]
def krL : List Rl := match parseF krB with | .ok l => l | .error _ => []
def rtB (r : Rl) : Bool := szB r && riB r && implF r && decide (cn r.l 0 0 = some (r.vars.toNat, r.imms.toNat))
def krChk : Bool := match parseF krB with
 | .ok l => l.all rtB && decide ((l.map fun r => kx r.name).Nodup) && decide (l.length = 28) && decide ((l.map fun r => (fmtR r).length).sum ≤ 9000)
 | .error _ => false
theorem kr_chk : krChk = true := by decide +kernel
theorem kr_parse : parseF krB = .ok krL ∧ (∀ r ∈ krL, rtB r = true) ∧ (krL.map fun r => kx r.name).Nodup ∧ krL.length = 28 ∧ (krL.map fun r => (fmtR r).length).sum ≤ 9000 := by
 have h := kr_chk;unfold krChk at h;unfold krL
 split at h
 ·
  rename_i l he;rw [he];simp only [Bool.and_eq_true, decide_eq_true_eq] at h;obtain ⟨⟨⟨h1, h2⟩, h3⟩, h4⟩ := h;exact ⟨rfl, List.all_eq_true.1 h1, h2, h3, h4⟩
 ·
  cases h
structure KrOk (r : Rl) : Prop where
 sz : RlSz r
 i : RlI r
 ok : RtOk r
theorem rtB_ok {r : Rl} (h : rtB r = true) : KrOk r := by
 unfold rtB at h;simp only [Bool.and_eq_true, decide_eq_true_eq] at h;obtain ⟨⟨⟨a1, a2⟩, a3⟩, a4⟩ := h;exact ⟨szB_ok a1, riB_ok a2, a3, rt_of a3 (riB_ok a2) a4⟩
theorem kr_ok {S : List Rl} (h : S.Sublist krL) : ∀ r ∈ S, KrOk r := fun r hr => rtB_ok (kr_parse.2.1 r (h.subset hr))
theorem kr_nodup {S : List Rl} (h : S.Sublist krL) : (S.map (·.name)).Nodup := by
 have h1 := kr_parse.2.2.1
 have h2 : (krL.map (·.name)).Nodup := by
  refine List.Pairwise.of_map (f := kx) (S := fun a b => a ≠ b) (fun a b h e => h (by rw [e])) ?_;rw [List.map_map];exact h1
 exact h2.sublist (h.map _)
theorem kr_len {S : List Rl} (h : S.Sublist krL) : S.length ≤ 28 := by
 have := h.length_le;rw [kr_parse.2.2.2.1] at this;exact this
theorem fmtRs_sum : ∀ S : List Rl, (fmtRs S).length = (S.map fun r => (fmtR r).length).sum
 | [] => rfl
 | r :: S => by
  have e : fmtRs (r :: S) = fmtR r ++ fmtRs S := rfl;rw [e, List.length_append, fmtRs_sum S];simp
theorem kr_size {S : List Rl} (h : S.Sublist krL) : (fmtRs S).length ≤ 9000 := by
 rw [fmtRs_sum];exact Nat.le_trans (sum_sub _ h) kr_parse.2.2.2.2
theorem kr_print {S : List Rl} (h : S.Sublist krL) : printF S = fmtRs S := print_ok fun r hr => (kr_ok h r hr).ok
theorem kr_two {p q : List Rl} (hp : p.Sublist krL) (hq : q.Sublist krL) (hn : ∀ x ∈ p, ∀ y ∈ q, x.name ≠ y.name) : parseF (printF p ++ printF q) = .ok (p ++ q) := by
 rw [kr_print hp, kr_print hq]
 refine two_ok (fun r hr => (kr_ok hp r hr).ok) (fun r hr => (kr_ok hq r hr).ok) ?_ (by have := kr_len hp; have := kr_len hq; rw [List.length_append]; omega) (by have := kr_size hp; have := kr_size hq; omega)
 rw [List.map_append, List.nodup_append];refine ⟨kr_nodup hp, kr_nodup hq, fun a ha b hb => ?_⟩;obtain ⟨x, hx, rfl⟩ := List.mem_map.1 ha;obtain ⟨y, hy, rfl⟩ := List.mem_map.1 hb;exact hn x hx y hy
theorem kr_dup {p q : List Rl} (hp : p.Sublist krL) (hq : q.Sublist krL) (hx : ∃ x ∈ p, ∃ y ∈ q, x.name = y.name) : ∃ j : Nat, parseF (printF p ++ printF q) = .error (4, (j : Int)) ∧ (printF p).length ≤ j ∧ j < (printF p).length + (printF q).length := by
 rw [kr_print hp, kr_print hq];obtain ⟨x, h1, y, h2, h3⟩ := hx
 exact two_dup (fun r hr => (kr_ok hp r hr).ok) (fun r hr => (kr_ok hq r hr).ok) (kr_nodup hp) ⟨y, h2, x, h1, h3⟩ (by have := kr_len hp; have := kr_len hq; rw [List.length_append]; omega) (by have := kr_size hp; have := kr_size hq; omega)
end Go.Proofs.YtblkgjdhaibhgaaGreat
namespace Go.Proofs.YtblkgjdhaibhgaaGreat
open Go.RowKit Go.WideShapes Go.ChangeShapes
section
variable {H : Type} {enc : TypeId × Value → H} {P : Program}
theorem post_of_below {f : Func} {s : ChangeSpec} {apart fresh handsOn again : Bool} {W W' : World} {args : Array Value} {v : Value} {ds gs : List (DataW H)} {before pa pv : List MemPlace}
  (hW : DataW.Whole enc P f.params.toList s.vars apart W args.toList ds gs before)
  (hres : ∀ (b : Nat) (sp : Nat → Bool) (hd : Bool), DataW.TrodAll enc P W' b sp hd f.resultTypes.toList (v.resultList f.resultTypes.size) (s.fn H (ds ++ gs)).results [])
  (hargs : ∀ sp : Nat → Bool, (∀ p ∈ before, sp p.block = true) → DataW.TrodAll enc P W' 0 sp true f.params.toList args.toList (s.fn H (ds ++ gs)).args pa)
  (hvars : ∀ sp : Nat → Bool, (∀ p ∈ before, sp p.block = true) → DataW.TrodVars enc P W' sp s.vars (s.fn H (ds ++ gs)).vars pv)
  (hps : before = pa ++ pv) (hb : Below W.heap.size W W')
  (hok : ∀ (j : Nat) (t : TypeId) (r : Value), f.resultTypes[j]? = some t → (v.resultList f.resultTypes.size)[j]? = some r → Value.okWide P W' .any 0 t r) :
  s.post enc P f apart fresh handsOn again W args v W' := by
 have hlt : ∀ p ∈ before, p.block < W.heap.size := fun p hp => hW.lt p hp
 have hold : ∀ p ∈ before, (fun b => decide (b < W.heap.size)) p.block = true := fun p hp => by simpa using hlt p hp
 refine ⟨ds, gs, before, [], pa, pv, hW, hres _ _ _, hargs _ hold, hvars _ hold, World.keptBut_mono (fun p hp => ⟨hp, ?_⟩) (hb.frame (· ∈ before)), fun _ => ?_⟩
 ·
  rw [hps, List.mem_append] at hp;exact Or.inr hp
 ·
  obtain ⟨_, _, _, _, _, hz, hn⟩ := hW;refine ⟨hok, _, _, ([] ++ pa) ++ pv, ⟨[] ++ pa, pv, trodAll_append (hargs _ (fun _ _ => rfl)) (hres _ _ _), hvars _ (fun _ _ => rfl), rfl, ?_, ?_⟩, ?_⟩
  ·
   intro b off hp
   have hin : MemPlace.cell b off ∈ before := by rw [hps]; simpa using hp
   rw [hb.frozen (hlt _ hin)];exact hz b off hin
  ·
   intro ha;have := hn ha;rw [hps] at this
   simpa using this
  ·
   intro p hp _;rw [hps]
   simpa using hp
theorem trodAll_stays (hl : laidOutB P = true) {W W' : World} {sp : Nat → Bool} : ∀ {ts : List TypeId} {vs : List Value} {ds : List (DataW H)} {ps : List MemPlace},
  (ts.all fun t => P.readableRec t && decide (t < P.types.size)) = true → DataW.TrodAll enc P W 0 (fun _ => true) true ts vs ds ps → (∀ p ∈ ps, W.sameAt W' p) → (∀ p ∈ ps, sp p.block = true) → DataW.TrodAll enc P W' 0 sp true ts vs ds ps
 | [], vs, ds, ps, _, h, _, _ => by
  obtain ⟨rfl, rfl, rfl⟩ := trodAll_nil h;exact trodAll_mk0
 | t :: ts, vs, ds, ps, ht, h, h1, h2 => by
  obtain ⟨v, vs', d, ds', p, q, rfl, rfl, rfl, hp, hq⟩ := trodAll_cons h;simp only [List.all_cons, Bool.and_eq_true, decide_eq_true_eq] at ht
  exact trodAll_cons_mk (WideElems.Trod_stays hl ht.1.1 ht.1.2 hp (fun x hx => h1 x (by simp [hx])) (fun x hx => h2 x (by simp [hx])))
   (trodAll_stays hl ht.2 hq (fun x hx => h1 x (by simp [hx])) (fun x hx => h2 x (by simp [hx])))
theorem law_post {f : Func} {s : ChangeSpec} {apart fresh handsOn again : Bool} {W W' : World} {args : Array Value} {ds gs : List (DataW H)} {before : List MemPlace} {tb : TypeId}
  (hW : DataW.Whole enc P f.params.toList s.vars apart W args.toList ds gs before) (hl : laidOutB P = true) (hts : (f.params.toList.all fun t => P.readableRec t && decide (t < P.types.size)) = true) (hv : s.vars = [])
  (hrt : f.resultTypes = #[tb]) (hbool : P.underlying tb = some .bool) (hs : s.fn H (ds ++ gs) = { results := [.lit (.bool true)], args := ds }) (hb : Below W.heap.size W W') :
  s.post enc P f apart fresh handsOn again W args (.bool true) W' := by
 have hW2 := hW;obtain ⟨p, q, hA, hV, rfl, hz, hn⟩ := hW;rw [hv] at hV;obtain ⟨rfl, rfl⟩ := trodVars_none hV
 have hlt : ∀ x ∈ p, x.block < W.heap.size := fun x hx => hW2.lt x (by simpa using hx)
 refine post_of_below (pa := p) (pv := []) hW2 (fun b sp hd => ?_) (fun sp hsp => ?_) (fun sp hsp => ?_) rfl hb ?_
 ·
  rw [hs, hrt];exact trodAll_mk1 (shut_bool hbool true)
 ·
  rw [hs];exact trodAll_stays hl hts hA (fun x hx => hb.same (hlt x hx)) (fun x hx => hsp x (by simpa using hx))
 ·
  rw [hs, hv]; rfl
 ·
  intro j t r h1 h2;rw [hrt] at h1 h2
  match j, h1 with
  | 0, h1 =>
   simp at h1;subst h1;simp [Value.resultList] at h2;subst h2;exact okWide_bool_mk hbool true
end
theorem own_ : ownKnob Tryz.prog.godebug = none := by kernel_rfl
theorem laidOut_ : laidOutB Tryz.prog = true := by kernel_rfl
end Go.Proofs.YtblkgjdhaibhgaaGreat
namespace Go.Proofs.YtblkgjdhaibhgaaGreat
open Go.RowKit Go.WideShapes Go.ChangeShapes Go.ChangeAt
section
variable {H : Type} {enc : TypeId × Value → H} {P : Program} {w : World}
theorem i64_of_wf {n : Int} (h : (Lit.int .i64 n).wf = true) : I64 n := by
 have h1 : IntKind.i64.min = -9223372036854775808 := rfl;have h2 : IntKind.i64.max = 9223372036854775807 := rfl;simp only [Lit.wf, Bool.and_eq_true, decide_eq_true_eq] at h;unfold I64;omega
theorem open_i64 {r : Reach} {b0 base : Nat} {sp : Nat → Bool} {held : Bool} {t : TypeId} {v : Value} {d : DataW H} {ps : List MemPlace} (ht : P.underlying t = some (.int .i64)) (hval : Value.okWide P w r b0 t v) (hd : DataW.Trod enc P w base sp held t v d ps) :
  ∃ n, v = .int .i64 n ∧ I64 n := by
 obtain ⟨n, h1, _, _, h2⟩ := open_int ht hval hd;exact ⟨n, h1, i64_of_wf h2⟩
end
section
variable {w w' : World} {F G K S : Nat → Prop} {A : Option Addr} {L M : List Rl} {n c : Nat} {cs ds : List Value}
theorem RsCells.append (h : RsCells w K cs L) (g : RsCells w K ds M) : RsCells w K (cs ++ ds) (L ++ M) := by
 have h1 := h.1;have g1 := g.1;refine ⟨by rw [List.length_append, List.length_append, h1, g1]; omega, fun i hi => ?_⟩
 by_cases hlt : i < L.length
 ·
  obtain ⟨a, k1, k2⟩ := h.2 i hlt;refine ⟨a, fun j hj => ?_, ?_⟩
  ·
   rw [List.getElem?_append_left (by omega), List.getElem_append_left hlt]; exact k1 j hj
  ·
   rw [List.getElem_append_left hlt]; exact k2
 ·
  have hi2 : i - L.length < M.length := by rw [List.length_append] at hi; omega
  obtain ⟨a, k1, k2⟩ := g.2 (i - L.length) hi2;refine ⟨a, fun j hj => ?_, ?_⟩
  ·
   rw [List.getElem?_append_right (by omega), List.getElem_append_right (by omega), h1, show 14 * i + j - 14 * L.length = 14 * (i - L.length) + j by omega]; exact k1 j hj
  ·
   rw [List.getElem_append_right (by omega)]; exact k2
theorem rlCells_one (r : Rl) (a : RlA) : ∀ u ∈ (rlCells r a).toList, u.oneCell' = true := by
 intro u hu;simp [rlCells] at hu
 rcases hu with h | h | h | h | h | h | h | h | h | h | h | h | h | h <;> subst h <;> rfl
theorem RlsV.cells (h : RlsV w F A L) : ∃ cs, Sl w F A cs ∧ RsCells w F cs L ∧ ∀ u ∈ cs, u.oneCell' = true := by
 rcases h with h | ⟨b, o, e, hF, h⟩
 ·
  subst h; exact ⟨[], .inl rfl, RsCells.nil, fun u hu => by cases hu⟩
 ·
  have key : ∀ k, k ≤ L.length → ∃ cs : List Value, RsCells w F cs (L.take k) ∧ (∀ j (hj : j < cs.length), w.cell? ⟨b, o + j, none⟩ = some cs[j]) ∧ ∀ u ∈ cs, u.oneCell' = true := by
   intro k
   induction k with
   | zero => intro _; exact ⟨[], RsCells.nil, fun j hj => absurd hj (Nat.not_lt_zero _), fun u hu => by cases hu⟩
   | succ k ih =>
    intro hk;obtain ⟨cs, h1, h2, h3⟩ := ih (by omega);obtain ⟨a, ha, hr⟩ := h k (by omega);have hl := h1.1;rw [List.length_take, Nat.min_eq_left (by omega)] at hl;refine ⟨cs ++ (rlCells L[k] a).toList, ?_, fun j hj => ?_, fun u hu => ?_⟩
    ·
     rw [take_snoc' (show k < L.length by omega)]; exact h1.snoc hr
    ·
     by_cases hlt : j < cs.length
     ·
      rw [List.getElem_append_left hlt]; exact h2 j hlt
     ·
      obtain ⟨i, rfl⟩ : ∃ i, j = cs.length + i := ⟨j - cs.length, by omega⟩
      have hi : i < 14 := by simp [rlCells] at hj; omega
      rw [List.getElem_append_right (by omega)];simp only [Nat.add_sub_cancel_left];obtain ⟨c0, c1, c2, c3, c4, c5, c6, c7, c8, c9, c10, c11, c12, c13⟩ := ha
      have e2 : o + (cs.length + i) = o + k * 14 + i := by omega
      rw [e2]
      rcases (by omega : i = 0 ∨ i = 1 ∨ i = 2 ∨ i = 3 ∨ i = 4 ∨ i = 5 ∨ i = 6 ∨ i = 7 ∨ i = 8 ∨ i = 9 ∨ i = 10 ∨ i = 11 ∨ i = 12 ∨ i = 13) with rfl | rfl | rfl | rfl | rfl | rfl | rfl | rfl | rfl | rfl | rfl | rfl | rfl | rfl
      ·
       exact c0
      ·
       exact c1
      ·
       exact c2
      ·
       exact c3
      ·
       exact c4
      ·
       exact c5
      ·
       exact c6
      ·
       exact c7
      ·
       exact c8
      ·
       exact c9
      ·
       exact c10
      ·
       exact c11
      ·
       exact c12
      ·
       exact c13
    ·
     rcases List.mem_append.1 hu with hu | hu
     ·
      exact h3 u hu
     ·
      exact rlCells_one _ _ u hu
  obtain ⟨cs, h1, h2, h3⟩ := key L.length (Nat.le_refl _);rw [List.take_length] at h1;exact ⟨cs, .inr ⟨b, o, e, hF, h2⟩, h1, h3⟩
theorem rls_laid (ho : Own w' 43 14 A n c cs) (hn : n = L.length) (hc : RsCells w F cs L) (u : Upd S w w') (hS : ∀ k, S k → w.heap.size ≤ k) (hA : ∀ k, At A k → w.heap.size ≤ k) : RlsV w' (fun _ => True) A L := by
 have hc3 : RsCells w' (fun k => k < w.heap.size ∧ ¬ At A k) cs L := hc.mono u (fun k hk _ h => by have := hS k h; omega) (fun k hk _ => ⟨hk, fun h => by have := hA k h; omega⟩)
 exact RlO.view (G := fun k => k < w.heap.size) ⟨hn, cs, ho, hc3⟩ (fun _ _ => trivial) (fun _ _ _ => trivial)
end
set_option maxRecDepth 100000 in
theorem knownRules_c (w : World) : Calls Tryz.prog 9 #[] w fun e w' => e = .returned (.string (kstr krB)) ∧ Upd Non w w' := by
 go_enter Tryz.func9, Tryz.ntmps9
 go_wp2_with fail
 go_ret;exact ⟨by kernel_rfl, Upd.refl⟩
def SomeP (w : World) (e : Ending) (w' : World) : Prop := ∃ (S : List Rl) (A : Option Addr) (c : Nat), S.Sublist krL ∧ e = .returned (.slice A S.length c) ∧ RlsV w' (fun k => w.heap.size ≤ k) A S ∧ S.length ≤ c ∧ Upd Non w w'
set_option maxRecDepth 100000 in
set_option maxHeartbeats 4000000 in
theorem someRules_c (mask : Int) (w : World) : Calls Tryz.prog 13 #[.int .i64 mask] w (SomeP w) := by
 have CK := Lib.hid (knownRules_c w);have CP := Lib.hid (fun W => xParse_c (kstr krB) W);rw [kx_kstr, kr_parse.1] at CP;obtain ⟨ks, Hks⟩ := nm (kstr krB);rw [Hks.out] at CK CP;have HL : Hid (krL.length = 28) := kr_parse.2.2.2.1;obtain ⟨L, HLL⟩ := nm krL;rw [HLL.out] at CP HL;have HKR : Hid (krL = L) := HLL.out;clear HLL Hks;go_enter Tryz.func13, Tryz.ntmps13
 go_wp2_with fail
 refine CK.out.mono ?_;rintro e w1 ⟨rfl, u1⟩
 go_wp2_with fail
 refine (CP.out _).mono ?_;rintro e w3 ⟨u3, h⟩
 rcases h with ⟨er, h, _⟩ | ⟨Q', A3, c3, h, rfl, hv3, hc3⟩
 ·
  cases h
 injection h with h
 subst h;rw [HL.out] at hc3 ⊢;obtain ⟨W4, HW4⟩ := nm (w3.alloc (.cells #[.int .i64 0, .int .i64 0] 31))
 have u4 : Upd Non w3 W4 := by rw [← HW4.out]; exact Upd.refl.alloc _
 have HV := Lib.hid ((hv3.upd u4 (fun _ _ _ f => f)).mono (G := fun k => w.heap.size ≤ k ∧ k < W4.heap.size) (fun k hk h => ⟨by have := u1.size; omega, hk⟩))
 have HU4 := Lib.hid ((u1.then_non u3).then_non u4);clear u1 u3 u4 hv3 CK CP
 go_upto_region 2 with fail
 rw [HW4.out]
 go_wp2_with fail
 go_loopg [5, 6] 28 (fun gg l i wr => ∃ (j : Nat) (S : List Rl) (A : Option Addr) (c : Nat), Hid (gg = 28 - j) ∧ j ≤ 28 ∧ i = .int .i64 j ∧ l = .slice A S.length c ∧ Hid (S.Sublist (L.take j)) ∧ Hid (RlO wr (fun k => w.heap.size ≤ k) A S.length c S) ∧ Hid (∀ k, At A k → W4.heap.size ≤ k) ∧ Hid (Upd Non W4 wr))
 case atStart => exact ⟨0, [], none, 0, rfl, Nat.zero_le _, rfl, rfl, List.Sublist.refl _, RlO.none_, fun k h => (At.none_ h).elim, Upd.refl⟩
 case round =>
  obtain ⟨j, S, A, c, Hg, hj, rfl, rfl, HSU, HRO, HAT, HU⟩ := hrel
  by_cases hlt : j < 28
  ·
   have hkl : j < L.length := by rw [HL.out]; exact hlt
   obtain ⟨b, o, a, rfl, _, hbw, hat, hrk⟩ := (HV.out.upd HU.out (fun _ _ _ f => f)).at_ hkl;have HTK : Hid (L.take (j + 1) = L.take j ++ [L[j]]) := take_snoc' hkl;have HRK := Lib.hid hrk;clear hrk;generalize L[j] = r at *;unfold RlAt at hat;obtain ⟨x0, x1, x2, x3, x4, x5, x6, x7, x8, x9, x10, x11, x12, x13⟩ := hat
   have hSl : S.length ≤ 28 := by
    have h1 := HSU.out.length_le;rw [List.length_take] at h1;omega
   have HC : Hid (S.length ≤ c) := HRO.out.le;obtain ⟨qn, Hqn⟩ := nm S.length;rw [Hqn.out] at hSl ⊢;have ti : decide ((j : Int) < 28) = true := decide_eq_true (by omega);obtain ⟨B, hB⟩ : ∃ B, (bits BinOp.and IntKind.i64 (mask / 2 ^ j) 1 == 1) = B := ⟨_, rfl⟩
   cases B with
   | false =>
    clear x0 x1 x2 x3 x4 x5 x6 x7 x8 x9 x10 x11 x12 x13
    go_wp2_with fail
    go_roundg (28 - (j + 1))
    case measure => rw [Hg.out]; omega
    case rel => exact ⟨j + 1, S, A, c, rfl, by omega, by go_num, by rw [Hqn.out], by show List.Sublist _ _; rw [HTK.out]; exact HSU.out.trans (List.sublist_append_left _ _), HRO.out, HAT.out, HU.out⟩
   | true =>
    obtain ⟨hqn, cs, hown, hcs⟩ := id HRO.out
    have hown2 : Own wr 43 14 A qn c cs := by rw [← Hqn.out]; exact hown
    have HCS := Lib.hid hcs;have HK3 : Hid (RlK wr (fun k => w.heap.size ≤ k ∧ ¬ At A k) r a) := HRK.out.mono (fun k _ h => ⟨h.1, fun q => by have := HAT.out k q; omega⟩);clear hqn hown hcs
    go_wp2_with (at_builtin; refine wpList_app rfl rfl T_rules rfl (hown2.alloc _) rfl (Sl.new _ _ _) rfl (by simp [Value.oneCell']) (by simp only [maxLen]; omega) (by omega) ?_; intro A8 c8 w8 ho8 hu8 hat8)
    have UA : Upd Non wr (wr.alloc (.cells (rlCells r a) 43)) := Upd.refl.alloc _
    have HRO8 := Lib.hid (RlO.snoc (G' := fun k => w.heap.size ≤ k) (w := wr.alloc (.cells (rlCells r a) 43)) Hqn.out.symm (HCS.out.mono UA (fun _ _ _ f => f) (fun _ _ h => h)) (HK3.out.upd UA (fun _ _ _ f => f)) ho8 hu8 hat8 (fun _ _ h => h))
    have HU8 : Hid (Upd Non W4 w8) := (HU.out.then_non UA).trans hu8 (fun k hk h => by have := HAT.out k h; omega)
    have HA8 : Hid (∀ k, At A8 k → W4.heap.size ≤ k) := fun k h => by
     rcases hat8 k h with h | h
     ·
      exact HAT.out k h
     ·
      have h1 := HU.out.size;have h2 := UA.size;rw [h];exact Nat.le_trans h1 h2
    clear ho8 hu8 hat8 UA hown2 x0 x1 x2 x3 x4 x5 x6 x7 x8 x9 x10 x11 x12 x13
    go_wp2_with fail
    go_roundg (28 - (j + 1))
    case measure => rw [Hg.out]; omega
    case rel => exact ⟨j + 1, S ++ [r], A8, c8, rfl, by omega, by go_num, by rw [List.length_append, Hqn.out]; rfl, by show List.Sublist _ _; rw [HTK.out]; exact HSU.out.append_right _, by rw [List.length_append, Hqn.out]; exact HRO8.out, HA8.out, HU8.out⟩
  ·
   obtain rfl : j = 28 := by omega
   have hS : S.Sublist krL := by
    have h := HSU.out;rw [List.take_of_length_le (by rw [HL.out]; omega)] at h;rw [HKR.out];exact h
   have HS := Lib.hid hS;have HV9 := Lib.hid (HRO.out.view (F := fun k => w.heap.size ≤ k) (fun k h => by have := HAT.out k h; have := HU4.out.size; omega) (fun _ _ h => h));have HC : Hid (S.length ≤ c) := HRO.out.le;clear hS;obtain ⟨qn, Hqn⟩ := nm S.length;rw [Hqn.out]
   go_wp2_with fail
   go_ret;exact ⟨S, A, c, HS.out, by rw [Hqn.out]; rfl, HV9.out, HC.out, HU4.out.then_non HU.out⟩
end Go.Proofs.YtblkgjdhaibhgaaGreat
