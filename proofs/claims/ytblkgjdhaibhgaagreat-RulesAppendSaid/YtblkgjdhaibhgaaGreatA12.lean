/-
  Lemmas and walks that the claim rests on, part 12 (packed by a program).
-/
import Derived.Test.YtblkgjdhaibhgaaGreatA11
import Derived.Test.YtblkgjdhaibhgaaGreatA4
import Derived.Test.YtblkgjdhaibhgaaGreatA7
import Derived.Test.YtblkgjdhaibhgaaGreatA9
import Derived.Laws.ResultCell
import Derived.Laws.Rows
namespace Go.Proofs.YtblkgjdhaibhgaaGreat
open Go.RowKit
set_option maxRecDepth 100000 in
theorem xParse_c (s : ByteArray) (w : World) : Calls Tryz.prog 11 #[.string s] w (ParseP (parseF (kx s)) w) := by
 obtain ⟨R, HR⟩ := nm (parseF (kx s));obtain ⟨W1, HW1⟩ := nm (w.alloc (.cells #[.int .i64 0, .int .i64 0] 31))
 have u1 : Upd Non w W1 := by rw [← HW1.out]; exact Upd.refl.alloc _
 have b1 : Blk W1 w.heap.size 31 #[.int .i64 0, .int .i64 0] := by rw [← HW1.out]; exact Blk.new _ _ _
 have e1 := HW1.out;have CP := Lib.hid (xparse_c s W1);rw [HR.out] at CP ⊢;have hl1 := b1.lt;have HB1 := Lib.hid b1;have HU1 := Lib.hid u1;clear b1 u1;go_enter Tryz.func11, Tryz.ntmps11
 go_wp2_with fail
 refine CP.out.mono ?_;rintro e w2 ⟨u2, h⟩;have b2 := HB1.out.upd u2 (fun f => f);have r0 := b2.cell 0;have r1 := b2.cell 1;have rf := b2.frozen;have HB2 := Lib.hid b2;have HU2 := Lib.hid (HU1.out.then_non u2);clear b2 u2 CP e1
 rcases h with ⟨er, h, rfl⟩ | ⟨Q, A, c, h, rfl, hv, hle⟩
 ·
  have HH := Lib.hid h;clear h
  go_wp2_with fail
  rw [setE2_eq];have us := setE2_upd w2 w.heap.size (.int .i64 er.1) (.int .i64 er.2);refine bodyPost_ret (results_tmp_cell rfl _ _ w.heap.size 31 _ (0, 0) _ rfl (setE2_blk HB2.out _ _) Tryz.underlying31 rfl (by kernel_rfl)) rfl ?_;exact ⟨HU2.out.trans us (fun k hk e => by omega), .inl ⟨er, HH.out, rfl⟩⟩
 ·
  have HH := Lib.hid h;have HV := Lib.hid hv;have HLE := Lib.hid hle;clear h hv hle
  go_wp2_with fail
  rw [setE2_eq];have us := setE2_upd w2 w.heap.size (.int .i64 0) (.int .i64 0);refine bodyPost_ret (results_tmp_cell rfl _ _ w.heap.size 31 _ (0, 0) _ rfl (setE2_blk HB2.out _ _) Tryz.underlying31 rfl (by kernel_rfl)) rfl ?_
  exact ⟨HU2.out.trans us (fun k hk e => by omega), .inr ⟨Q, A, c, HH.out, rfl, (HV.out.upd us (fun k _ q e => by omega)).mono (fun k _ q => by omega), HLE.out⟩⟩
def Lex (s : Bs) (ws : List Bs) : Prop :=
 ∀ (t : Bs) (o f : Nat), (s ++ t).length < f → ∃ T : List Tok, tokL f (s ++ t) o = T ++ tokL f t (o + s.length) ∧ T.map (·.s) = ws ∧ (∀ x ∈ T, x.bad = false ∧ o ≤ x.pos ∧ x.pos < o + s.length) ∧ T.length ≤ s.length
theorem Lex.nil : Lex [] [] := fun t o f _ => ⟨[], by simp, rfl, fun x h => by simp at h, Nat.le_refl _⟩
theorem Lex.app {s1 s2 : Bs} {w1 w2 : List Bs} (h1 : Lex s1 w1) (h2 : Lex s2 w2) : Lex (s1 ++ s2) (w1 ++ w2) := by
 intro t o f hf;obtain ⟨T1, e1, m1, p1, l1⟩ := h1 (s2 ++ t) o f (by rw [← List.append_assoc]; exact hf);obtain ⟨T2, e2, m2, p2, l2⟩ := h2 t (o + s1.length) f (by simp only [List.length_append] at hf ⊢; omega);refine ⟨T1 ++ T2, ?_, by rw [List.map_append, m1, m2], fun x hx => ?_, by rw [List.length_append, List.length_append]; omega⟩
 ·
  rw [List.append_assoc, e1, e2, List.append_assoc, List.length_append, Nat.add_assoc]
 ·
  rw [List.length_append]
  rcases List.mem_append.1 hx with hx | hx
  ·
   have := p1 x hx; exact ⟨this.1, by omega, by omega⟩
  ·
   have := p2 x hx; exact ⟨this.1, by omega, by omega⟩
theorem tokL_sp (f : Nat) {c : UInt8} {t : Bs} {o : Nat} (h : isSp c = true) : tokL (f + 1) (c :: t) o = tokL f t (o + 1) := by rw [tokL, if_pos h]
theorem Lex.sp {c : UInt8} (h : isSp c = true) : Lex [c] [] := by
 intro t o f hf
 match f, hf with
 | f + 1, hf =>
  refine ⟨[], ?_, rfl, fun x hx => by simp at hx, Nat.zero_le _⟩;show tokL (f + 1) (c :: t) o = [] ++ tokL (f + 1) t (o + 1);rw [tokL_sp f h, List.nil_append];exact tokL_fuel _ _ _ _ (by simp at hf; omega) (by simp at hf; omega)
theorem pn_sp {c : UInt8} (h : isPn c = true) : isSp c = false ∧ c.toNat ≠ 47 := by
 simp only [isPn, decide_eq_true_eq] at h;refine ⟨?_, by omega⟩;simp only [isSp, decide_eq_false_iff_not];omega
theorem isCm_ne {c : UInt8} {t : Bs} (h : c.toNat ≠ 47) : isCm (c :: t) = false := by
 cases t with
 | nil => rfl
 | cons d t => simp [isCm, h]
theorem Lex.pn {c : UInt8} (h : isPn c = true) : Lex [c] [[c]] := by
 intro t o f hf
 match f, hf with
 | f + 1, hf =>
  obtain ⟨h1, h2⟩ := pn_sp h;refine ⟨[⟨[c], o, false⟩], ?_, rfl, fun x hx => ?_, Nat.le_refl _⟩
  ·
   show tokL (f + 1) (c :: t) o = _;rw [tokL, if_neg (by rw [h1]; decide), if_neg (by rw [isCm_ne h2]; decide), if_pos (by simp [h])];rw [show (!isPn c) = false by rw [h]; rfl];show _ :: tokL f t (o + 1) = _ :: tokL (f + 1) t (o + 1);rw [tokL_fuel f (f + 1) _ _ (by simp at hf; omega) (by simp at hf; omega)]
  ·
   rw [List.mem_singleton] at hx; subst hx; exact ⟨rfl, Nat.le_refl _, by simp⟩
def wOk (w : Bs) : Bool := w.all fun c => wordCh c && decide (c.toNat ≠ 47)
theorem wlen_ok : ∀ {w : Bs} {d : UInt8} {t : Bs}, wOk w = true → wordCh d = false → wlen (w ++ d :: t) = w.length
 | [], d, t, _, hd => by simp [wlen, hd]
 | c :: w, d, t, h, hd => by
  simp only [wOk, List.all_cons, Bool.and_eq_true, decide_eq_true_eq] at h;obtain ⟨⟨h1, h2⟩, h3⟩ := h
  have h4 : wOk w = true := by simpa [wOk] using h3
  rw [List.cons_append, wlen, if_pos (by rw [h1, isCm_ne h2]; rfl), wlen_ok h4 hd];rfl
theorem wordCh_parts {c : UInt8} (h : wordCh c = true) : isPn c = false ∧ isSp c = false ∧ 33 ≤ c.toNat ∧ c.toNat ≤ 126 := by
 simp only [wordCh, Bool.and_eq_true, decide_eq_true_eq, Bool.not_eq_true'] at h;refine ⟨h.2, ?_, h.1.1, h.1.2⟩;simp only [isSp, decide_eq_false_iff_not];omega
theorem delim_word {d : UInt8} (h : isSp d = true ∨ isPn d = true) : wordCh d = false := by
 rcases h with h | h
 ·
  simp only [isSp, decide_eq_true_eq] at h;simp only [wordCh, Bool.and_eq_false_iff, decide_eq_false_iff_not]
  left; omega
 ·
  simp [wordCh, h]
theorem Lex.word {w : Bs} {d : UInt8} {ws : List Bs} (h : wOk w = true) (hn : w ≠ []) (hd : isSp d = true ∨ isPn d = true) {s : Bs} (hr : Lex (d :: s) ws) : Lex (w ++ d :: s) (w :: ws) := by
 intro t o f hf;have hl := wlen_ok (t := s ++ t) h (delim_word hd);obtain ⟨T, e, m, p, l⟩ := hr t (o + w.length) f (by simp only [List.length_append, List.length_cons] at hf ⊢; omega)
 match w, f, hn, hf, hl with
 | c :: w', f + 1, _, hf, hl =>
  have hc : wordCh c = true ∧ c.toNat ≠ 47 := by
   simp only [wOk, List.all_cons, Bool.and_eq_true, decide_eq_true_eq] at h;exact h.1
  obtain ⟨p1, p2, p3, p4⟩ := wordCh_parts hc.1;refine ⟨⟨c :: w', o, false⟩ :: T, ?_, by rw [List.map_cons, m], fun x hx => ?_, by simp only [List.length_append, List.length_cons] at l ⊢; omega⟩
  ·
   have e0 : (c :: w') ++ d :: s ++ t = c :: (w' ++ d :: (s ++ t)) := by simp
   have e1 : c :: (w' ++ d :: (s ++ t)) = (c :: w') ++ (d :: (s ++ t)) := rfl
   have ht : (c :: (w' ++ d :: (s ++ t))).take (wlen (c :: (w' ++ d :: (s ++ t)))) = c :: w' := by rw [e1, hl, List.take_left']; rfl
   have hdp : (c :: (w' ++ d :: (s ++ t))).drop (wlen (c :: (w' ++ d :: (s ++ t)))) = d :: (s ++ t) := by rw [e1, hl, List.drop_left']; rfl
   rw [e0, tokL, if_neg (by rw [p2]; decide), if_neg (by rw [isCm_ne hc.2]; decide), if_neg (by simp [p1]; omega), ht, hdp];have e2 : wlen (c :: (w' ++ d :: (s ++ t))) = (c :: w').length := hl;rw [e2, List.cons_append]
   congr 1
   rw [tokL_fuel f (f + 1) _ _ (by simp at hf ⊢; omega) (by simp at hf ⊢; omega)];have e3 : d :: (s ++ t) = (d :: s) ++ t := rfl;rw [e3, e]
   congr 2
   simp only [List.length_append, List.length_cons];omega
  ·
   rcases List.mem_cons.1 hx with rfl | hx
   ·
    exact ⟨rfl, Nat.le_refl _, by simp⟩
   ·
    have := p x hx;simp only [List.length_append, List.length_cons] at this ⊢;exact ⟨this.1, by omega, by omega⟩
theorem Lex.all {s : Bs} {ws : List Bs} (h : Lex s ws) : ∃ T : List (Bs × Nat), goodT (toksF s) = T ∧ T.map (·.1) = ws ∧ finT (toksF s) = s.length ∧ ∀ x ∈ T, x.2 < s.length := by
 obtain ⟨T, e, m, p, l⟩ := h [] 0 (s.length + 1) (by simp);rw [List.append_nil] at e
 have e2 : toksF s = T ++ [⟨[], s.length, true⟩] := by
  unfold toksF;rw [e, Nat.zero_add]
  cases s.length <;> rfl
 have key : ∀ (T : List Tok), (∀ x ∈ T, x.bad = false) → goodT (T ++ [⟨[], s.length, true⟩]) = T.map (fun x => (x.s, x.pos)) ∧ finT (T ++ [⟨[], s.length, true⟩]) = s.length := by
  intro T
  induction T with
  | nil => intro _; exact ⟨rfl, rfl⟩
  | cons x T ih =>
   intro hx;obtain ⟨h1, h2⟩ := ih (fun y hy => hx y (List.mem_cons_of_mem _ hy));have hb := hx x List.mem_cons_self;constructor
   ·
    rw [List.cons_append, goodT, if_neg (by rw [hb]; decide), h1]; rfl
   ·
    rw [List.cons_append, finT, if_neg (by rw [hb]; decide), h2]
 obtain ⟨k1, k2⟩ := key T (fun x hx => (p x hx).1);rw [e2];refine ⟨_, k1, by rw [← m, List.map_map]; rfl, k2, fun x hx => ?_⟩;obtain ⟨y, hy, rfl⟩ := List.mem_map.1 hx;have := (p y hy).2.2
 simpa using this
theorem Lex.len {s : Bs} {ws : List Bs} (h : Lex s ws) : ws.length ≤ s.length := by
 obtain ⟨T, e, m, p, l⟩ := h [] 0 (s.length + 1) (by simp);rw [← m, List.length_map];exact l
def Emb (T1 T : List (Bs × Nat)) (k : Nat) : Prop := ∀ j, j < T1.length → tkF T (k + j) = tkF T1 j
def sh (k : Nat) (x : PS) : PS := ⟨k + x.i, x.vs, x.ms⟩
section
variable {T1 T : List (Bs × Nat)} {fin fin' k : Nat}
theorem Emb.som (h : Emb T1 T k) {i : Nat} {s : Bs} (hi : tkF T1 i = some s) : tkF T (k + i) = some s := by rw [h i (tkF_lt hi), hi]
theorem Emb.no (h : Emb T1 T k) {i : Nat} {s : Bs} (hi : i < T1.length) (hn : ¬ tkF T1 i = some s) : ¬ tkF T (k + i) = some s := by rw [h i hi]; exact hn
theorem wrd_loc {α : Type} (h : Emb T1 T k) {f : Bs → PS → Option (α × PS)} (hf : ∀ s x a y, f s x = some (a, y) → ∃ y', f s (sh k x) = some (a, y') ∧ y'.vs = y.vs ∧ y'.ms = y.ms) {x y : PS} {a : α} (hr : wrdF T1 fin f x = .ok (a, y)) : wrdF T fin' f (sh k x) = .ok (a, sh k y) ∧ ∃ s, tkF T1 x.i = some s := by
 unfold wrdF at hr
 split at hr
 ·
  rename_i s hs;refine ⟨?_, s, hs⟩
  split at hr
  ·
   cases hr
  ·
   rename_i hp
   split at hr
   ·
    rename_i a' y' hf'
    injection hr with hr
    injection hr with h1 h2
    subst h1 h2;obtain ⟨y2, g1, g2, g3⟩ := hf _ _ _ _ hf';unfold wrdF;rw [show (sh k x).i = k + x.i from rfl, h.som hs];dsimp only;rw [if_neg hp, g1];dsimp only;rw [g2, g3];rfl
   ·
    cases hr
 ·
  cases hr
theorem exp_loc (h : Emb T1 T k) {s : Bs} {x y : PS} (hr : expF T1 fin s x = .ok y) : expF T fin' s (sh k x) = .ok (sh k y) ∧ tkF T1 x.i = some s := by
 unfold expF at hr
 split at hr
 ·
  rename_i hs
  injection hr with hr
  subst hr;refine ⟨?_, hs⟩;unfold expF;rw [show (sh k x).i = k + x.i from rfl, if_pos (h.som hs)];rfl
 ·
  cases hr
theorem atom_sh {left : Bool} : ∀ s x a y, atomF left s x = some (a, y) → ∃ y', atomF left s (sh k x) = some (a, y') ∧ y'.vs = y.vs ∧ y'.ms = y.ms := by
 intro s x a y h;unfold atomF at h ⊢
 split at h
 ·
  injection h with h; injection h with h1 h2; subst h1 h2; exact ⟨_, rfl, rfl, rfl⟩
 ·
  rw [show (sh k x).vs = x.vs from rfl, show (sh k x).ms = x.ms from rfl]
  split at h
  ·
   rename_i h3; injection h with h; injection h with h1 h2; subst h1 h2; rw [if_pos h3]; exact ⟨_, rfl, rfl, rfl⟩
  ·
   rename_i h3;rw [if_neg h3]
   split at h
   ·
    rename_i h4; injection h with h; injection h with h1 h2; subst h1 h2; rw [if_pos h4]; exact ⟨_, rfl, rfl, rfl⟩
   ·
    cases h
theorem oper_sh {left : Bool} : ∀ s x a y, operF left s x = some (a, y) → ∃ y', operF left s (sh k x) = some (a, y') ∧ y'.vs = y.vs ∧ y'.ms = y.ms := by
 intro s x a y h;unfold operF at h ⊢;dsimp only at h ⊢;rw [show (sh k x).ms = x.ms from rfl]
 split at h
 ·
  cases h
 ·
  split at h
  ·
   cases h
  ·
   rename_i h1;rw [if_neg h1]
   split at h
   ·
    rename_i h2; injection h with h; injection h with h3 h4; subst h3 h4; rw [if_pos h2]; exact ⟨_, rfl, rfl, rfl⟩
   ·
    rename_i h2;rw [if_neg h2]
    split at h
    ·
     injection h with h; injection h with h3 h4; subst h3 h4; exact ⟨_, rfl, rfl, rfl⟩
    ·
     split at h
     ·
      split at h
      ·
       rename_i h3; injection h with h; injection h with h4 h5; subst h4 h5; rw [if_pos h3]; exact ⟨_, rfl, rfl, rfl⟩
      ·
       cases h
     ·
      cases h
theorem kids_loc {g g' : PS → Except Er (Pt × PS)} (hg : ∀ x y q, g x = .ok (q, y) → g' (sh k x) = .ok (q, sh k y)) : ∀ {n : Nat} {x y : PS} {l : List Pt}, kidsF g n x = .ok (l, y) → kidsF g' n (sh k x) = .ok (l, sh k y)
 | 0, x, y, l, h => by simp only [kidsF] at h ⊢; injection h with h; injection h with h1 h; subst h h1; rfl
 | n + 1, x, y, l, h => by
  rw [kidsF] at h ⊢
  split at h
  ·
   cases h
  ·
   rename_i q z hq;rw [hg _ _ _ hq];dsimp only
   split at h
   ·
    cases h
   ·
    rename_i l2 z2 hk;rw [kids_loc hg hk]
    injection h with h; injection h with h1 h; subst h h1; rfl
theorem term_loc (h : Emb T1 T k) {left : Bool} : ∀ (f : Nat) (x y : PS) (q : Pt), termF T1 fin left f x = .ok (q, y) → ∀ f', f ≤ f' → termF T fin' left f' (sh k x) = .ok (q, sh k y)
 | 0, x, y, q, hr, _, _ => by unfold termF at hr; cases hr
 | f + 1, x, y, q, hr, f', hf => by
  obtain ⟨f2, rfl⟩ : ∃ f2, f' = f2 + 1 := ⟨f' - 1, by omega⟩;rw [termF_succ] at hr ⊢;rw [show (sh k x).i = k + x.i from rfl]
  split at hr
  ·
   rename_i ht;rw [if_pos (h.som ht)];unfold appF at hr ⊢
   split at hr
   ·
    cases hr
   ·
    rename_i p1 y1 h1;have e1 := (wrd_loc (fin' := fin') h oper_sh h1).1;rw [show ({ sh k x with i := k + x.i + 1 } : PS) = sh k { x with i := x.i + 1 } from rfl, e1];dsimp only
    split at hr
    ·
     cases hr
    ·
     rename_i l z h2;rw [kids_loc (fun x y q hq => term_loc h f x y q hq f2 (by omega)) h2];dsimp only
     split at hr
     ·
      cases hr
     ·
      rename_i u h3;rw [(exp_loc (fin' := fin') h h3).1]
      injection hr with hr; injection hr with h4 hr; subst hr h4; rfl
  ·
   rename_i ht;obtain ⟨e1, s, hs⟩ := wrd_loc (fin' := fin') h atom_sh hr;rw [if_neg (h.no (tkF_lt hs) ht)];exact e1
theorem pvar_loc (h : Emb T1 T k) {x y : PS} {n : Nat} (hr : pvarF T1 fin x = .ok (n, y)) : pvarF T fin' (sh k x) = .ok (n, sh k y) := by
 unfold pvarF at hr ⊢;refine (wrd_loc h (fun s x a y hf => ?_) hr).1;rw [show (sh k x).vs = x.vs from rfl]
 split at hf
 ·
  rename_i h1; injection hf with hf; injection hf with h2 h3; subst h2 h3; rw [if_pos h1]; exact ⟨_, rfl, rfl, rfl⟩
 ·
  cases hf
theorem ivar_loc (h : Emb T1 T k) {x y : PS} {n : Nat} (hr : ivarF T1 fin x = .ok (n, y)) : ivarF T fin' (sh k x) = .ok (n, sh k y) := by
 unfold ivarF at hr ⊢;refine (wrd_loc h (fun s x a y hf => ?_) hr).1;rw [show (sh k x).ms = x.ms from rfl]
 split at hf
 ·
  split at hf
  ·
   rename_i h1; injection hf with hf; injection hf with h2 h3; subst h2 h3; rw [if_pos h1]; exact ⟨_, rfl, rfl, rfl⟩
  ·
   cases hf
 ·
  cases hf
theorem numb_loc (h : Emb T1 T k) {x y : PS} {n : Int} (hr : numbF T1 fin x = .ok (n, y)) : numbF T fin' (sh k x) = .ok (n, sh k y) := by
 unfold numbF at hr ⊢;refine (wrd_loc h (fun s x a y hf => ?_) hr).1
 cases hd : decF s with
 | none => rw [hd] at hf; cases hf
 | some m => rw [hd] at hf; injection hf with hf; injection hf with h2 h3; subst h2 h3; exact ⟨_, rfl, rfl, rfl⟩
theorem kind_loc (h : Emb T1 T k) {x y : PS} {n : Nat} (hr : kindF T1 fin x = .ok (n, y)) : kindF T fin' (sh k x) = .ok (n, sh k y) := by
 unfold kindF at hr ⊢;refine (wrd_loc h (fun s x a y hf => ?_) hr).1
 cases hd : findL condL s 0 with
 | none => rw [hd] at hf; cases hf
 | some m => rw [hd] at hf; injection hf with hf; injection hf with h2 h3; subst h2 h3; exact ⟨_, rfl, rfl, rfl⟩
theorem any_loc (h : Emb T1 T k) {x y : PS} {s : Bs} (hr : anyF T1 fin x = .ok (s, y)) : anyF T fin' (sh k x) = .ok (s, sh k y) := by
 unfold anyF at hr ⊢;refine (wrd_loc h (fun s x a y hf => ?_) hr).1
 injection hf with hf; injection hf with h2 h3; subst h2 h3; exact ⟨_, rfl, rfl, rfl⟩
theorem pcond_loc (h : Emb T1 T k) {x y : PS} {c : Cd} (hr : pcondF T1 fin x = .ok (c, y)) : pcondF T fin' (sh k x) = .ok (c, sh k y) := by
 unfold pcondF at hr ⊢
 split at hr
 ·
  cases hr
 ·
  rename_i kk y1 h1;rw [kind_loc (fin' := fin') h h1];dsimp only
  split at hr
  ·
   cases hr
  ·
   rename_i a z h2
   have e2 : (if kk = 6 then ivarF T fin' (sh k y1) else pvarF T fin' (sh k y1)) = .ok (a, sh k z) := by
    split at h2
    ·
     rename_i q; rw [if_pos q]; exact ivar_loc h h2
    ·
     rename_i q; rw [if_neg q]; exact pvar_loc h h2
   rw [e2];dsimp only
   split at hr
   ·
    rename_i q; rw [if_pos q]; injection hr with hr; injection hr with h3 h4; subst h3 h4; rfl
   ·
    rename_i q;rw [if_neg q]
    split at hr
    ·
     rename_i q; rw [if_pos q]
     split at hr
     ·
      cases hr
     ·
      rename_i n u h3;rw [numb_loc (fin' := fin') h h3]
      injection hr with hr; injection hr with h4 h5; subst h4 h5; rfl
    ·
     rename_i q; rw [if_neg q]
     split at hr
     ·
      rename_i q; rw [if_pos q]
      split at hr
      ·
       cases hr
      ·
       rename_i n u h3;rw [pvar_loc (fin' := fin') h h3]
       injection hr with hr; injection hr with h4 h5; subst h4 h5; rfl
     ·
      rename_i q; rw [if_neg q]
      split at hr
      ·
       cases hr
      ·
       rename_i n u h3;rw [ivar_loc (fin' := fin') h h3]
       injection hr with hr; injection hr with h4 h5; subst h4 h5; rfl
theorem conds_loc (h : Emb T1 T k) : ∀ (f : Nat) (x y : PS) (l : List Cd), condsF T1 fin f x = .ok (l, y) → y.i < T1.length → T1.length < f + x.i → ∀ f', T.length < f' + (k + x.i) → condsF T fin' f' (sh k x) = .ok (l, sh k y)
 | 0, x, y, l, hr, hy, hf, f', hf' => by unfold condsF at hr; injection hr with hr; injection hr with _ hr; subst hr; omega
 | f + 1, x, y, l, hr, hy, hf, f', hf' => by
  rw [condsF_succ] at hr
  split at hr
  ·
   rename_i ht;have hT := tkF_lt (h.som ht);obtain ⟨f2, rfl⟩ : ∃ f2, f' = f2 + 1 := ⟨f' - 1, by omega⟩;rw [condsF_succ, show (sh k x).i = k + x.i from rfl, if_pos (h.som ht)]
   split at hr
   ·
    cases hr
   ·
    rename_i c y1 h1;have e1 := pcond_loc (fin' := fin') h h1;have hi : x.i + 1 ≤ y1.i := pcondF_i h1;rw [show ({ sh k x with i := k + x.i + 1 } : PS) = sh k { x with i := x.i + 1 } from rfl, e1];dsimp only
    split at hr
    ·
     cases hr
    ·
     rename_i l2 z h2
     injection hr with hr; injection hr with h3 h4; subst h3 h4
     rw [conds_loc h f y1 z l2 h2 hy (by omega) f2 (by omega)]
  ·
   rename_i ht
   injection hr with hr; injection hr with h3 h4; subst h3 h4
   have hn := h.no hy ht
   cases f' with
   | zero => rfl
   | succ f2 => rw [condsF_succ, show (sh k x).i = k + x.i from rfl, if_neg hn]
theorem if_loc (h : Emb T1 T k) {x y : PS} {l : List Cd} (hr : ifF T1 fin (T1.length + 1) x = .ok (l, y)) (hy : y.i < T1.length) : ifF T fin' (T.length + 1) (sh k x) = .ok (l, sh k y) := by
 unfold ifF at hr ⊢;rw [show (sh k x).i = k + x.i from rfl]
 split at hr
 ·
  rename_i ht;rw [if_pos (h.som ht)]
  split at hr
  ·
   cases hr
  ·
   rename_i c y1 h1;have e1 := pcond_loc (fin' := fin') h h1;rw [show ({ sh k x with i := k + x.i + 1 } : PS) = sh k { x with i := x.i + 1 } from rfl, e1];dsimp only
   split at hr
   ·
    cases hr
   ·
    rename_i l2 z h2
    injection hr with hr; injection hr with h3 h4; subst h3 h4
    rw [conds_loc h _ y1 z l2 h2 hy (by omega) _ (by omega)]
 ·
  rename_i ht
  injection hr with hr; injection hr with h3 h4; subst h3 h4
  rw [if_neg (h.no hy ht)]
theorem Emb.len (h : Emb T1 T k) (h0 : 0 < T1.length) : k + T1.length ≤ T.length := by
 have hs : tkF T1 (T1.length - 1) = some (T1[T1.length - 1]'(by omega)).1 := by unfold tkF; rw [List.getElem?_eq_getElem (by omega)]; rfl
 have := tkF_lt (h.som hs);omega
theorem rule_loc (h : Emb T1 T k) {x y : PS} {r : Rl} (hr : ruleF T1 fin x = .ok (r, y)) : ruleF T fin' (sh k x) = .ok (r, sh k y) := by
 unfold ruleF at hr ⊢
 split at hr
 ·
  cases hr
 ·
  rename_i s x1 h1;have e1 := any_loc (fin' := fin') h h1;rw [show ({ sh k x with vs := [], ms := [] } : PS) = sh k { x with vs := [], ms := [] } from rfl, e1];dsimp only
  split at hr
  ·
   cases hr
  ·
   rename_i x2 h2;have e2 := (exp_loc (fin' := fin') h h2).1;have hlen := h.len (by have := tkF_lt (exp_loc (fin' := fin') h h2).2; omega);rw [e2];dsimp only
   split at hr
   ·
    cases hr
   ·
    rename_i l x3 h3;rw [term_loc h _ _ _ _ h3 (T.length + 1) (by omega)];dsimp only
    split at hr
    ·
     cases hr
    ·
     rename_i x4 h4;rw [(exp_loc (fin' := fin') h h4).1];dsimp only
     split at hr
     ·
      cases hr
     ·
      rename_i r5 x5 h5;rw [term_loc h _ _ _ _ h5 (T.length + 1) (by omega)];dsimp only
      split at hr
      ·
       cases hr
      ·
       rename_i cs x6 h6
       split at hr
       ·
        cases hr
       ·
        rename_i x7 h7;obtain ⟨e7, ht⟩ := exp_loc (fin' := fin') h h7;rw [if_loc h h6 (tkF_lt ht)];dsimp only;rw [e7]
        injection hr with hr; injection hr with h8 h9; subst h8 h9; rfl
theorem item_loc (h : Emb T1 T k) {ax : Bs → Option Rl} {x y : PS} {o : Option Rl} {n : Nat} (hr : itemF T1 fin ax x = .ok ((o, n), y)) : ∃ n', itemF T fin' ax (sh k x) = .ok ((o, n'), sh k y) := by
 unfold itemF at hr ⊢;rw [show (sh k x).i = k + x.i from rfl]
 split at hr
 ·
  rename_i ht;rw [if_pos (h.som ht)]
  split at hr
  ·
   cases hr
  ·
   rename_i s y1 h1;have e1 := any_loc (fin' := fin') h h1;rw [show ({ sh k x with i := k + x.i + 1 } : PS) = sh k { x with i := x.i + 1 } from rfl, e1];dsimp only
   split at hr
   ·
    cases hr
   ·
    rename_i z h2;rw [(exp_loc (fin' := fin') h h2).1]
    injection hr with hr; injection hr with h3 h4; injection h3 with h3 _; subst h3 h4
    exact ⟨_, rfl⟩
 ·
  rename_i ht
  split at hr
  ·
   cases hr
  ·
   rename_i y1 h1;obtain ⟨e1, hs⟩ := exp_loc (fin' := fin') h h1;rw [if_neg (h.no (tkF_lt hs) ht), e1];dsimp only
   split at hr
   ·
    cases hr
   ·
    rename_i r z h2;rw [rule_loc h h2]
    injection hr with hr; injection hr with h3 h4; injection h3 with h3 _; subst h3 h4
    exact ⟨_, rfl⟩
end
def ItemOk (ax : Bs → Option Rl) (ws : List Bs) (r : Rl) : Prop := ws ≠ [] ∧ ∃ n y, itemF (ws.map fun s => (s, 0)) 0 ax ⟨0, [], []⟩ = .ok ((some r, n), y) ∧ y.i = ws.length
section
variable {T : List (Bs × Nat)} {fin n : Nat} {ax : Bs → Option Rl}
theorem any_vs {i : Nat} {vs ms vs' ms' : Bs} {s : Bs} {y : PS} (h : anyF T fin ⟨i, vs, ms⟩ = .ok (s, y)) : anyF T fin ⟨i, vs', ms'⟩ = .ok (s, ⟨y.i, vs', ms'⟩) := by
 unfold anyF wrdF at h ⊢;dsimp only at h ⊢
 split at h
 ·
  split at h
  ·
   cases h
  ·
   rename_i hp
   injection h with h; injection h with h1 h2; subst h1 h2
   rw [if_neg hp]
 ·
  cases h
theorem exp_vs {i : Nat} {vs ms vs' ms' : Bs} {s : Bs} {y : PS} (h : expF T fin s ⟨i, vs, ms⟩ = .ok y) : expF T fin s ⟨i, vs', ms'⟩ = .ok ⟨y.i, vs', ms'⟩ := by
 unfold expF at h ⊢;dsimp only at h ⊢
 split at h
 ·
  rename_i ht; injection h with h; subst h; rw [if_pos ht]
 ·
  cases h
theorem rule_vs {i : Nat} {vs ms vs' ms' : Bs} : ruleF T fin ⟨i, vs, ms⟩ = ruleF T fin ⟨i, vs', ms'⟩ := by rw [ruleF_eq, ruleF_eq]
theorem item_vs {i : Nat} {vs ms vs' ms' : Bs} {o : Option Rl} {m : Nat} {y : PS} (h : itemF T fin ax ⟨i, vs, ms⟩ = .ok ((o, m), y)) : ∃ y', itemF T fin ax ⟨i, vs', ms'⟩ = .ok ((o, m), y') ∧ y'.i = y.i := by
 unfold itemF at h ⊢;dsimp only at h ⊢
 split at h
 ·
  rename_i ht;rw [if_pos ht]
  split at h
  ·
   cases h
  ·
   rename_i s y1 h1;rw [any_vs (vs' := vs') (ms' := ms') h1];dsimp only
   split at h
   ·
    cases h
   ·
    rename_i z h2;rw [exp_vs (vs' := vs') (ms' := ms') (i := y1.i) (vs := y1.vs) (ms := y1.ms) h2]
    injection h with h; injection h with h3 h4; injection h3 with h3 h5; subst h3 h4 h5
    exact ⟨_, rfl, rfl⟩
 ·
  rename_i ht;rw [if_neg ht]
  split at h
  ·
   cases h
  ·
   rename_i y1 h1;rw [exp_vs (vs' := vs') (ms' := ms') h1];dsimp only;have e : ruleF T fin ⟨y1.i, vs', ms'⟩ = ruleF T fin y1 := rule_vs;rw [e]
   split at h
   ·
    cases h
   ·
    rename_i r z h2
    injection h with h; injection h with h3 h4; injection h3 with h3 h5; subst h3 h4 h5
    exact ⟨_, rfl, rfl⟩
theorem emb_of {ws rest : List Bs} {k : Nat} (h : (T.map (·.1)).drop k = ws ++ rest) : Emb (ws.map fun s => (s, 0)) T k := by
 intro j hj
 have hj2 : j < ws.length := by simpa using hj
 have e : (T.map (·.1))[k + j]? = ((T.map (·.1)).drop k)[j]? := by rw [List.getElem?_drop]
 rw [h, List.getElem?_append_left hj2] at e;unfold tkF;rw [List.getElem?_map] at e;rw [e, List.getElem?_map]
 cases ws[j]? <;> rfl
theorem loop_run (hpos : ∀ j, j < T.length → offF T fin j < n) (hfin : fin = n) : ∀ (cs : List (List Bs × Rl)) (k : Nat) (vs ms : Bs) (out : List Rl) (f : Nat), (T.map (·.1)).drop k = (cs.map (·.1)).flatten → k ≤ T.length → (∀ c ∈ cs, ItemOk ax c.1 c.2 ∧ implF c.2 = true) → ((out ++ cs.map (·.2)).map (·.name)).Nodup → (out ++ cs.map (·.2)).length ≤ 160 → T.length < f + k → loopF T fin ax n f ⟨k, vs, ms⟩ out = .ok (out ++ cs.map (·.2))
 | [], k, vs, ms, out, f, hd, hk, _, _, _, hf => by
  have hl : k = T.length := by
   have := congrArg List.length hd;simp at this;omega
  obtain ⟨f, rfl⟩ : ∃ g, f = g + 1 := ⟨f - 1, by omega⟩;rw [loopF, if_neg]
  ·
   simp
  ·
   unfold offF;dsimp only;rw [List.getElem?_eq_none (by omega)];dsimp only;omega
 | c :: cs, k, vs, ms, out, f, hd, hk, hc, hn, hl, hf => by
  obtain ⟨⟨hne, m, y, hi, hyi⟩, himp⟩ := hc c List.mem_cons_self;have hwl : 0 < c.1.length := List.length_pos_iff.2 hne
  have hd' : (T.map (·.1)).drop k = c.1 ++ (cs.map (·.1)).flatten := by rw [hd]; rfl
  have hE := emb_of hd';have hlen := hE.len (by simpa using hwl);rw [List.length_map] at hlen;obtain ⟨f, rfl⟩ : ∃ g, f = g + 1 := ⟨f - 1, by omega⟩;obtain ⟨y2, h2, hy2⟩ := item_vs (vs' := vs) (ms' := ms) hi;obtain ⟨m2, h3⟩ := item_loc (fin' := fin) hE h2;have h3 : itemF T fin ax ⟨k, vs, ms⟩ = .ok ((some c.2, m2), sh k y2) := h3;rw [loopF, if_pos (hpos k (by omega)), h3];dsimp only
  have hnd : out.any (fun q => decide (q.name = c.2.name)) = false := by
   rw [List.any_eq_false];intro q hq;simp only [decide_eq_true_eq];intro e;rw [List.map_append, List.nodup_append] at hn;exact hn.2.2 q.name (List.mem_map.2 ⟨q, hq, rfl⟩) c.2.name (by simp) e
  rw [if_neg (by simp [himp]), if_neg (by simp [hnd]), if_neg (by simp at hl; omega)]
  have := loop_run hpos hfin cs (k + c.1.length) y2.vs y2.ms (out ++ [c.2]) f (by rw [← List.drop_drop, hd']; simp) (by omega) (fun d hd => hc d (List.mem_cons_of_mem _ hd)) (by simpa using hn) (by simpa using hl) (by omega)
  have e : sh k y2 = ⟨k + c.1.length, y2.vs, y2.ms⟩ := by unfold sh; rw [hy2, hyi]
  rw [e, this];simp
end
theorem parse_file {ax : Bs → Option Rl} {s : Bs} {cs : List (List Bs × Rl)} (hx : Lex s (cs.map (·.1)).flatten) (hs : s.length ≤ 20000) (hc : ∀ c ∈ cs, ItemOk ax c.1 c.2 ∧ implF c.2 = true) (hn : ((cs.map (·.2)).map (·.name)).Nodup) (hl : cs.length ≤ 160) : parseG ax s = .ok (cs.map (·.2)) := by
 have hw := hx.len;obtain ⟨T, h1, h2, h3, h4⟩ := hx.all;unfold parseG;rw [if_neg (by omega), h1, h3]
 have hTl : T.length ≤ s.length := by have := congrArg List.length h2; rw [List.length_map] at this; omega
 have := loop_run (T := T) (fin := s.length) (n := s.length) (ax := ax) (fun j hj => by
  unfold offF;rw [List.getElem?_eq_getElem hj]
  exact h4 _ (List.getElem_mem hj)) rfl cs 0 [] [] [] (s.length + 1) (by rw [List.drop_zero]; exact h2) (Nat.zero_le _) hc (by simpa using hn) (by simpa using hl) (by omega)
 simpa using this
inductive Fm6 : Pt → Prop
 | var {v : Int} : 0 < v → v ≤ 6 → Fm6 (.mk v 0 0 0 [])
 | cst {imm : Int} : I64 imm → Fm6 (.mk 0 1 imm 0 [])
 | cim {iv : Int} : 0 < iv → iv ≤ 6 → Fm6 (.mk 0 1 0 iv [])
 | app {op imm iv : Int} {ks : List Pt} : 4 ≤ op → op < 32 → arF op = some ks.length → I64 imm → 0 ≤ iv → iv ≤ 6 → (iv ≠ 0 → imm = 0) → (immOp op = false → imm = 0 ∧ iv = 0) → (∀ k ∈ ks, Fm6 k) → Fm6 (.mk 0 op imm iv ks)
def sfx (op imm iv : Int) : Bs := if 0 < iv then 46 :: inF iv else if immOp op = true then 46 :: textF imm else []
mutual
def wT : Pt → List Bs
 | .mk v op imm iv ks =>
  if 0 < v then [vnF v] else if op = 1 then [if 0 < iv then 36 :: inF iv else textF imm]
  else [40] :: (opNm op ++ sfx op imm iv) :: (wTL ks ++ [[41]])
def wTL : List Pt → List Bs
 | [] => []
 | k :: ks => wT k ++ wTL ks
end
theorem isDg_w {c : UInt8} (h : isDg c = true) : wordCh c = true ∧ c.toNat ≠ 47 := by
 simp only [isDg, decide_eq_true_eq] at h;refine ⟨?_, by omega⟩;simp only [wordCh, isPn, Bool.and_eq_true, decide_eq_true_eq, Bool.not_eq_true', decide_eq_false_iff_not];omega
theorem dg_of {n : Nat} (h : n < 10) : isDg (UInt8.ofNat (48 + n)) = true ∧ (UInt8.ofNat (48 + n)).toNat = 48 + n := by
 have e : (UInt8.ofNat (48 + n)).toNat = 48 + n := by simp; omega
 refine ⟨?_, e⟩;simp only [isDg, decide_eq_true_eq, e];omega
theorem decG_dg : ∀ (f n : Nat), ∀ c ∈ decG f n, isDg c = true
 | 0, n, c, h => by simp [decG] at h
 | f + 1, n, c, h => by
  rw [decG] at h
  split at h
  ·
   rename_i hn;rw [List.mem_singleton] at h; subst h; exact (dg_of hn).1
  ·
   rcases List.mem_append.1 h with h | h
   ·
    exact decG_dg f _ c h
   ·
    rw [List.mem_singleton] at h; subst h; exact (dg_of (Nat.mod_lt _ (by decide))).1
theorem decD_ne (n : Nat) : decD n ≠ [] := by
 unfold decD;rw [decG]
 split <;> simp
theorem wOk_app {a b : Bs} (ha : wOk a = true) (hb : wOk b = true) : wOk (a ++ b) = true := by simp only [wOk, List.all_append, Bool.and_eq_true] at *; exact ⟨ha, hb⟩
theorem wOk_dec (n : Nat) : wOk (decD n) = true := by
 simp only [wOk, List.all_eq_true];intro c hc;have := isDg_w (decG_dg 20 n c hc);simp [this.1, this.2]
theorem wOk_text (n : Int) : wOk (textF n) = true := by
 unfold textF
 split
 ·
  exact wOk_app (a := [45]) (by decide) (wOk_dec _)
 ·
  exact wOk_dec _
theorem textF_ne (n : Int) : textF n ≠ [] := by
 unfold textF
 split
 ·
  simp
 ·
  exact decD_ne _
theorem i6 {n : Int} (h0 : 0 < n) (h : n ≤ 6) : n = 1 ∨ n = 2 ∨ n = 3 ∨ n = 4 ∨ n = 5 ∨ n = 6 := by omega
theorem wOk_vn {n : Int} (h0 : 0 < n) (h : n ≤ 6) : wOk (vnF n) = true := by
 rcases i6 h0 h with rfl | rfl | rfl | rfl | rfl | rfl <;> decide
theorem wOk_in {n : Int} (h0 : 0 < n) (h : n ≤ 6) : wOk (inF n) = true := by
 rcases i6 h0 h with rfl | rfl | rfl | rfl | rfl | rfl <;> decide
theorem wOk_names : ∀ s ∈ nameL, wOk s = true ∧ s ≠ [] := by decide
theorem opNm_ok {op : Int} (h0 : 4 ≤ op) (h1 : op < 32) : wOk (opNm op) = true ∧ opNm op ≠ [] := by
 unfold opNm
 have h : (op - 4).toNat < nameL.length := by show _ < 28; omega
 rw [List.getD, List.getElem?_eq_getElem h, Option.getD_some];exact wOk_names _ (List.getElem_mem h)
theorem wOk_conds : ∀ s ∈ condL, wOk s = true ∧ s ≠ [] := by decide
theorem wOk_sfx {op imm iv : Int} (h : iv ≤ 6) : wOk (sfx op imm iv) = true := by
 unfold sfx
 split
 ·
  rename_i q;exact wOk_app (a := [46]) (by decide) (wOk_in q h)
 ·
  split
  ·
   exact wOk_app (a := [46]) (by decide) (wOk_text _)
  ·
   rfl
def dlm (d : UInt8) : Prop := isSp d = true ∨ isPn d = true
mutual
theorem lex_fmt : ∀ (p : Pt), Fm6 p → ∀ {d : UInt8} {s : Bs} {ws : List Bs}, dlm d → Lex (d :: s) ws → Lex (fmtF p ++ d :: s) (wT p ++ ws)
 | .mk v op imm iv ks, h, d, s, ws, hd, hr => by
  unfold fmtF wT
  cases h with
  | var h1 h2 =>
   rw [if_pos h1, if_pos h1];exact Lex.word (wOk_vn h1 h2) (by simp [vnF]) hd hr
  | cst h1 =>
   simp only [show ¬ (0 : Int) < 0 by decide, if_false, if_true];exact Lex.word (wOk_text _) (textF_ne _) hd hr
  | cim h1 h2 =>
   simp only [show ¬ (0 : Int) < 0 by decide, if_false, if_true, h1];exact Lex.word (wOk_app (a := [36]) (by decide) (wOk_in h1 h2)) (by simp) hd hr
  | app h1 h2 h3 h4 h5 h6 h7 h8 h9 =>
   have q1 : ¬ op = 1 := by omega
   simp only [show ¬ (0 : Int) < 0 by decide, if_false, q1];obtain ⟨o1, o2⟩ := opNm_ok h1 h2;have hw : wOk (opNm op ++ sfx op imm iv) = true := wOk_app o1 (wOk_sfx h6)
   have hwn : opNm op ++ sfx op imm iv ≠ [] := fun q => o2 (List.append_eq_nil_iff.1 q).1
   have hcl : Lex (41 :: (d :: s)) ([41] :: ws) := Lex.app (s1 := [41]) (w1 := [[41]]) (Lex.pn (by decide)) hr;obtain ⟨e, t, he, hde, hlx⟩ := lex_fmtL ks h9 (d := 41) (s := d :: s) (ws := [41] :: ws) (.inr (by decide)) hcl;have h10 : Lex ((opNm op ++ sfx op imm iv) ++ e :: t) ((opNm op ++ sfx op imm iv) :: (wTL ks ++ [41] :: ws)) := Lex.word hw hwn hde hlx;rw [← he] at h10
   have h11 := Lex.app (s1 := [40]) (w1 := [[40]]) (Lex.pn (by decide)) h10
   have e1 : [40] ++ ((opNm op ++ sfx op imm iv) ++ (fmtL ks ++ 41 :: (d :: s))) = [40] ++ opNm op ++ (if 0 < iv then 46 :: inF iv else if immOp op = true then 46 :: textF imm else []) ++ fmtL ks ++ [41] ++ d :: s := by simp [sfx]
   have e2 : [[40]] ++ (opNm op ++ sfx op imm iv) :: (wTL ks ++ [41] :: ws) = ([40] :: (opNm op ++ sfx op imm iv) :: (wTL ks ++ [[41]])) ++ ws := by simp
   rw [e1, e2] at h11;exact h11
theorem lex_fmtL : ∀ (ks : List Pt), (∀ k ∈ ks, Fm6 k) → ∀ {d : UInt8} {s : Bs} {ws : List Bs}, dlm d → Lex (d :: s) ws → ∃ e t, fmtL ks ++ d :: s = e :: t ∧ dlm e ∧ Lex (e :: t) (wTL ks ++ ws)
 | [], _, d, s, ws, hd, hr => ⟨d, s, rfl, hd, hr⟩
 | k :: ks, h, d, s, ws, hd, hr => by
  obtain ⟨e, t, he, hde, hlx⟩ := lex_fmtL ks (fun q hq => h q (List.mem_cons_of_mem _ hq)) hd hr;have h1 := lex_fmt k (h k List.mem_cons_self) hde hlx;refine ⟨32, fmtF k ++ (e :: t), ?_, .inl (by decide), ?_⟩
  ·
   rw [← he];simp [fmtL]
  ·
   have := Lex.app (s1 := [32]) (w1 := []) (Lex.sp (by decide)) h1;unfold wTL;rw [List.append_assoc];exact this
end
structure Cd6 (c : Cd) : Prop where
 k0 : 1 ≤ c.kind
 k1 : c.kind ≤ 6
 a0 : 0 < c.a
 a1 : c.a ≤ 6
 b0 : 4 ≤ c.kind → 0 < c.b ∧ c.b ≤ 6
 b1 : c.kind ≤ 3 → c.b = 0
 n0 : c.kind ≠ 2 → c.kind ≠ 3 → c.n = 0
 n1 : I64 c.n
def wC (c : Cd) : List Bs :=
 condNm c.kind :: (if c.kind = 1 then [vnF c.a] else if c.kind = 4 then [vnF c.a, vnF c.b] else if c.kind = 5 then [vnF c.a, inF c.b] else if c.kind = 6 then [inF c.a, inF c.b] else [vnF c.a, textF c.n])
def wCs : List Cd → Bool → List Bs
 | [], _ => []
 | c :: cs, first => (if first then [105, 102] else [44]) :: wC c ++ wCs cs false
def wR (r : Rl) : List Bs := [[114, 117, 108, 101], kx r.name, [58]] ++ wT r.l ++ [[61, 62]] ++ wT r.r ++ wCs r.conds true ++ [[59]]
theorem condNm_ok {k : Int} (h0 : 1 ≤ k) (h1 : k ≤ 6) : wOk (condNm k) = true ∧ condNm k ≠ [] := by
 unfold condNm
 have h : (k - 1).toNat < condL.length := by show _ < 6; omega
 rw [List.getD, List.getElem?_eq_getElem h, Option.getD_some];exact wOk_conds _ (List.getElem_mem h)
theorem lex_two {a b : Bs} (ha : wOk a = true) (hna : a ≠ []) (hb : wOk b = true) (hnb : b ≠ []) {d : UInt8} {s : Bs} {ws : List Bs} (hd : dlm d) (hr : Lex (d :: s) ws) : Lex (a ++ [32] ++ b ++ d :: s) (a :: b :: ws) := by
 have h1 := Lex.word hb hnb hd hr;have h2 := Lex.app (s1 := [32]) (w1 := []) (Lex.sp (by decide)) h1;have h3 := Lex.word (s := b ++ d :: s) ha hna (.inl (by decide)) h2
 have e : a ++ [32] ++ b ++ d :: s = a ++ 32 :: (b ++ d :: s) := by simp
 rw [e];exact h3
theorem lex_c {c : Cd} (h : Cd6 c) {d : UInt8} {s : Bs} {ws : List Bs} (hd : dlm d) (hr : Lex (d :: s) ws) : Lex (fmtC c ++ d :: s) (wC c ++ ws) := by
 obtain ⟨k1, k2⟩ := condNm_ok h.k0 h.k1;have va := wOk_vn h.a0 h.a1;have ia := wOk_in h.a0 h.a1
 have nv : ∀ n, vnF n ≠ [] := fun n => by simp [vnF]
 have ni : ∀ n, inF n ≠ [] := fun n => by simp [inF]
 have key : ∀ {t : Bs} {us : List Bs}, Lex (t ++ d :: s) (us ++ ws) → Lex (condNm c.kind ++ [32] ++ t ++ d :: s) (condNm c.kind :: us ++ ws) := fun {t us} hk => by
  have h2 := Lex.app (s1 := [32]) (w1 := []) (Lex.sp (by decide)) hk;have h3 := Lex.word (s := t ++ d :: s) k1 k2 (.inl (by decide)) h2
  have e : condNm c.kind ++ [32] ++ t ++ d :: s = condNm c.kind ++ 32 :: (t ++ d :: s) := by simp
  rw [e];exact h3
 unfold fmtC wC;refine key ?_
 split
 ·
  exact Lex.word va (nv _) hd hr
 ·
  split
  ·
   have hb := h.b0 (by omega); exact lex_two va (nv _) (wOk_vn hb.1 hb.2) (nv _) hd hr
  ·
   split
   ·
    have hb := h.b0 (by omega); exact lex_two va (nv _) (wOk_in hb.1 hb.2) (ni _) hd hr
   ·
    split
    ·
     have hb := h.b0 (by omega); exact lex_two ia (ni _) (wOk_in hb.1 hb.2) (ni _) hd hr
    ·
     exact lex_two va (nv _) (wOk_text _) (textF_ne _) hd hr
theorem lex_cs : ∀ (cs : List Cd) (b : Bool), (∀ c ∈ cs, Cd6 c) → ∀ {d : UInt8} {s : Bs} {ws : List Bs}, dlm d → Lex (d :: s) ws → ∃ e t, fmtCs cs b ++ d :: s = e :: t ∧ dlm e ∧ Lex (e :: t) (wCs cs b ++ ws)
 | [], _, _, d, s, ws, hd, hr => ⟨d, s, rfl, hd, hr⟩
 | c :: cs, b, h, d, s, ws, hd, hr => by
  obtain ⟨e, t, he, hde, hlx⟩ := lex_cs cs false (fun q hq => h q (List.mem_cons_of_mem _ hq)) hd hr;have h1 := lex_c (h c List.mem_cons_self) hde hlx;have h2 := Lex.app (s1 := [32]) (w1 := []) (Lex.sp (by decide)) h1
  cases b with
  | true =>
   have h3 := Lex.word (w := [105, 102]) (d := 32) (s := fmtC c ++ e :: t) (by decide) (by simp) (.inl (by decide)) h2;have h4 := Lex.app (s1 := [32]) (w1 := []) (Lex.sp (by decide)) h3;refine ⟨32, [105, 102, 32] ++ fmtC c ++ e :: t, ?_, .inl (by decide), ?_⟩
   ·
    rw [← he];simp [fmtCs]
   ·
    have e1 : [32] ++ ([105, 102] ++ 32 :: (fmtC c ++ e :: t)) = 32 :: ([105, 102, 32] ++ fmtC c ++ e :: t) := by simp
    rw [e1] at h4
    have e2 : [] ++ [105, 102] :: ([] ++ (wC c ++ (wCs cs false ++ ws))) = wCs (c :: cs) true ++ ws := by simp [wCs]
    rw [e2] at h4;exact h4
  | false =>
   have h3 := Lex.app (s1 := [44]) (w1 := [[44]]) (Lex.pn (by decide)) h2;refine ⟨44, 32 :: (fmtC c ++ e :: t), ?_, .inr (by decide), ?_⟩
   ·
    rw [← he];simp [fmtCs]
   ·
    have e2 : [[44]] ++ ([] ++ (wC c ++ (wCs cs false ++ ws))) = wCs (c :: cs) false ++ ws := by simp [wCs]
    rw [e2] at h3;exact h3
theorem name_ok {n : ByteArray} (h : nameF n = true) : wOk (kx n) = true ∧ kx n ≠ [] := by
 simp only [nameF, Bool.and_eq_true, decide_eq_true_eq] at h;refine ⟨?_, fun q => ?_⟩
 ·
  have h1 := h.1;simp only [wOk, List.all_eq_true] at h1 ⊢;intro c hc;have := h1 c hc;simp only [nmCh, decide_eq_true_eq] at this;simp only [Bool.and_eq_true, decide_eq_true_eq, wordCh, isPn, Bool.not_eq_true', decide_eq_false_iff_not];omega
 ·
  have := kx_len n;rw [q] at this;simp at this;omega
structure Rt6 (R : Rl) : Prop where
 n : nameF R.name = true
 l : Fm6 R.l
 r : Fm6 R.r
 c : ∀ x ∈ R.conds, Cd6 x
theorem lex_rule {r : Rl} (h : Rt6 r) : Lex (fmtR r) (wR r) := by
 have h0 : Lex [59, 10] [[59]] := Lex.app (s1 := [59]) (w1 := [[59]]) (s2 := [10]) (w2 := []) (Lex.pn (by decide)) (Lex.sp (by decide));obtain ⟨e, t, he, hde, h1⟩ := lex_cs r.conds true h.c (d := 59) (s := [10]) (.inr (by decide)) h0;have h2 := lex_fmt r.r h.r hde h1;have h3 := Lex.app (s1 := [32]) (w1 := []) (Lex.sp (by decide)) h2
 have h4 := Lex.word (w := [61, 62]) (d := 32) (s := fmtF r.r ++ e :: t) (by decide) (by simp) (.inl (by decide)) h3;have h5 := Lex.app (s1 := [32]) (w1 := []) (Lex.sp (by decide)) h4;have h6 := lex_fmt r.l h.l (d := 32) (s := [61, 62] ++ 32 :: (fmtF r.r ++ e :: t)) (.inl (by decide)) h5;have h7 := Lex.app (s1 := [32]) (w1 := []) (Lex.sp (by decide)) h6
 have h8 := Lex.app (s1 := [58]) (w1 := [[58]]) (Lex.pn (by decide)) h7;obtain ⟨n1, n2⟩ := name_ok h.n;have h9 := Lex.word (w := kx r.name) (d := 58) (s := [32] ++ (fmtF r.l ++ 32 :: ([61, 62] ++ 32 :: (fmtF r.r ++ e :: t)))) n1 n2 (.inr (by decide)) h8;have h10 := Lex.app (s1 := [32]) (w1 := []) (Lex.sp (by decide)) h9
 have h11 := Lex.word (w := [114, 117, 108, 101]) (d := 32) (s := kx r.name ++ 58 :: ([32] ++ (fmtF r.l ++ 32 :: ([61, 62] ++ 32 :: (fmtF r.r ++ e :: t))))) (by decide) (by simp) (.inl (by decide)) h10
 rw [← he] at h11
 have e1 : [114, 117, 108, 101] ++ 32 :: (kx r.name ++ 58 :: ([32] ++ (fmtF r.l ++ 32 :: ([61, 62] ++ 32 :: (fmtF r.r ++ (fmtCs r.conds true ++ 59 :: [10])))))) = fmtR r := by simp [fmtR]
 rw [e1] at h11
 have e2 : [114, 117, 108, 101] :: ([] ++ kx r.name :: ([[58]] ++ ([] ++ (wT r.l ++ ([] ++ [61, 62] :: ([] ++ (wT r.r ++ (wCs r.conds true ++ [[59]])))))))) = wR r := by simp [wR]
 rw [e2] at h11;exact h11
theorem digF_sn (l : Bs) (c : UInt8) (a : Nat) : digF (l ++ [c]) a = 10 * digF l a + (c.toNat - 48) := by simp [digF]
theorem dig_dec : ∀ (f n : Nat), n < 10 ^ (f + 1) → digF (decG (f + 1) n) 0 = n
 | 0, n, h => by
  have h : n < 10 := by simpa using h
  rw [decG_lt 0 h];show 10 * 0 + ((UInt8.ofNat (48 + n)).toNat - 48) = n;rw [(dg_of h).2]; omega
 | f + 1, n, h => by
  by_cases hn : n < 10
  ·
   rw [decG_lt _ hn];show 10 * 0 + ((UInt8.ofNat (48 + n)).toNat - 48) = n;rw [(dg_of hn).2]; omega
  ·
   rw [decG_ge _ hn, digF_sn, dig_dec f (n / 10) (by rw [Nat.div_lt_iff_lt_mul (by decide)]; rw [Nat.pow_succ] at h; exact h), (dg_of (Nat.mod_lt _ (by decide))).2]
   omega
theorem dec_head : ∀ (f n : Nat), 0 < n → n < 10 ^ (f + 1) → ∃ c l, decG (f + 1) n = c :: l ∧ c ≠ 48
 | 0, n, h0, h => by
  have h : n < 10 := by simpa using h
  rw [decG_lt 0 h];refine ⟨_, [], rfl, fun q => ?_⟩;have := congrArg UInt8.toNat q;rw [(dg_of h).2] at this;have e : (48 : UInt8).toNat = 48 := rfl;omega
 | f + 1, n, h0, h => by
  by_cases hn : n < 10
  ·
   rw [decG_lt _ hn];refine ⟨_, [], rfl, fun q => ?_⟩;have := congrArg UInt8.toNat q;rw [(dg_of hn).2] at this;have e : (48 : UInt8).toNat = 48 := rfl;omega
  ·
   obtain ⟨c, l, e, hc⟩ := dec_head f (n / 10) (by omega) (by rw [Nat.div_lt_iff_lt_mul (by decide)]; rw [Nat.pow_succ] at h; exact h);rw [decG_ge _ hn, e];exact ⟨c, l ++ _, rfl, hc⟩
theorem dec_len : ∀ (k f n : Nat), n < 10 ^ (k + 1) → (decG f n).length ≤ k + 1
 | k, 0, n, _ => by simp [decG]
 | 0, f + 1, n, h => by rw [decG_lt f (by simpa using h)]; simp
 | k + 1, f + 1, n, h => by
  by_cases hn : n < 10
  ·
   rw [decG_lt f hn]; simp
  ·
   rw [decG_ge f hn, List.length_append];have := dec_len k f (n / 10) (by rw [Nat.div_lt_iff_lt_mul (by decide)]; rw [Nat.pow_succ] at h; exact h);simp; omega
theorem decF_text {n : Int} (h : I64 n) : decF (textF n) = some n := by
 have hb : n.natAbs < 10 ^ 19 := by unfold I64 at h; omega
 have hlen : (decD n.natAbs).length ≤ 19 := dec_len 18 20 _ hb;have hdig : digF (decD n.natAbs) 0 = n.natAbs := dig_dec 19 _ (by omega);have hall : (decD n.natAbs).all isDg = true := List.all_eq_true.2 (decG_dg 20 _);have hne : 1 ≤ (decD n.natAbs).length := List.length_pos_iff.2 (decD_ne _);unfold textF
 by_cases hn : n < 0
 ·
  rw [if_pos hn];obtain ⟨c, l, e, hc⟩ := dec_head 19 n.natAbs (by omega) (by omega);have e : decD n.natAbs = c :: l := e
  have hneg : decide ((45 :: decD n.natAbs).head? = some (45 : UInt8)) = true := by simp
  unfold decF;dsimp only;rw [hneg];simp only [if_true, List.tail_cons];rw [if_neg (by rw [e]; simp only [List.head?_cons, Option.some.injEq]; rw [← e]; intro q; rcases q with q | q | q; omega; omega; exact hc q.1), hall];simp only [if_true, hdig];rw [if_neg (by unfold I64 at h; omega)]
  congr 1
  omega
 ·
  rw [if_neg hn]
  have hneg : decide ((decD n.natAbs).head? = some (45 : UInt8)) = false := by
   apply decide_eq_false;intro q
   cases hd : decD n.natAbs with
   | nil => exact decD_ne _ hd
   | cons c l =>
    rw [hd] at q;simp only [List.head?_cons, Option.some.injEq] at q;have := decG_dg 20 n.natAbs c (by show c ∈ decD n.natAbs; rw [hd]; exact List.mem_cons_self);rw [q] at this;exact absurd this (by decide)
  unfold decF;dsimp only;rw [hneg];simp only [Bool.false_eq_true, if_false]
  have h48 : ¬ ((decD n.natAbs).head? = some (48 : UInt8) ∧ ((decD n.natAbs).length > 1 ∨ False)) := by
   rintro ⟨q1, q2⟩
   by_cases h0 : n.natAbs = 0
   ·
    rw [h0] at q2;have : (decD 0).length = 1 := rfl
    rcases q2 with q2 | q2
    ·
     omega
    ·
     exact q2
   ·
    obtain ⟨c, l, e, hc⟩ := dec_head 19 n.natAbs (by omega) (by omega);have e : decD n.natAbs = c :: l := e;rw [e] at q1;simp only [List.head?_cons, Option.some.injEq] at q1;exact hc q1
  rw [if_neg (by intro q; rcases q with q | q | q; omega; omega; exact h48 q), hall];simp only [if_true, hdig];rw [if_neg (by unfold I64 at h; omega)]
  congr 1
  omega
def nm7 (m : Nat) : Bs := (List.range m).map fun i => UInt8.ofNat (97 + i)
def ni7 (m : Nat) : Bs := (List.range m).map fun i => UInt8.ofNat (107 + i)
theorem look_v : ∀ m : Fin 7, ∀ v : Fin 7, ∀ left : Bool, (1 ≤ v.val ∧ v.val ≤ m.val → lookF (nm7 m) (UInt8.ofNat (96 + v)) left = (v.val, nm7 m)) ∧ (v.val = m.val + 1 → lookF (nm7 m) (UInt8.ofNat (96 + v)) true = (v.val, nm7 (m + 1))) := by decide +kernel
theorem look_i : ∀ m : Fin 7, ∀ v : Fin 7, ∀ left : Bool, (1 ≤ v.val ∧ v.val ≤ m.val → lookF (ni7 m) (UInt8.ofNat (106 + v)) left = (v.val, ni7 m)) ∧ (v.val = m.val + 1 → lookF (ni7 m) (UInt8.ofNat (106 + v)) true = (v.val, ni7 (m + 1))) := by decide +kernel
theorem vn_parts : ∀ v : Fin 7, 1 ≤ v.val → decF [63, UInt8.ofNat (96 + v)] = none ∧ isLw (UInt8.ofNat (96 + v)) = true := by decide +kernel
theorem in_parts : ∀ v : Fin 7, 1 ≤ v.val → decF [36, UInt8.ofNat (106 + v)] = none ∧ decF [UInt8.ofNat (106 + v)] = none ∧ isLw (UInt8.ofNat (106 + v)) = true := by decide +kernel
theorem op_parts : ∀ i : Fin 28, opF (nameL[i.val]'i.isLt) = some (4 + i.val) ∧ (nameL[i.val]'i.isLt).all (fun c => decide (c.toNat ≠ 46)) = true := by decide +kernel
theorem cond_parts : ∀ i : Fin 6, findL condL (condL[i.val]'i.isLt) 0 = some i.val := by decide +kernel
def cnI (iv : Int) (n : Nat) : Option Nat := if 0 < iv then (if iv ≤ n then some n else if iv = n + 1 then some (n + 1) else none) else some n
mutual
def cn : Pt → Nat → Nat → Option (Nat × Nat)
 | .mk v _ _ iv ks, m, n =>
  if 0 < v then (if v ≤ m then some (m, n) else if v = m + 1 then some (m + 1, n) else none)
  else match cnI iv n with
   | none => none
   | some n2 => cnL ks m n2
def cnL : List Pt → Nat → Nat → Option (Nat × Nat)
 | [], m, n => some (m, n)
 | k :: ks, m, n => match cn k m n with
  | none => none
  | some s => cnL ks s.1 s.2
end
theorem cnI_mono {iv : Int} {n n2 : Nat} (h : cnI iv n = some n2) : n ≤ n2 := by
 unfold cnI at h
 split at h
 ·
  split at h
  ·
   injection h with h; omega
  ·
   split at h
   ·
    injection h with h; omega
   ·
    cases h
 ·
  injection h with h; omega
mutual
theorem cn_mono : ∀ (p : Pt) {m n m' n' : Nat}, cn p m n = some (m', n') → m ≤ m' ∧ n ≤ n'
 | .mk v op imm iv ks, m, n, m', n', h => by
  unfold cn at h
  split at h
  ·
   split at h
   ·
    injection h with h; injection h with h1 h2; omega
   ·
    split at h
    ·
     injection h with h; injection h with h1 h2; omega
    ·
     cases h
  ·
   cases hc : cnI iv n with
   | none => rw [hc] at h; cases h
   | some n2 =>
    rw [hc] at h;have := cnI_mono hc;have := cnL_mono ks h;omega
theorem cnL_mono : ∀ (ks : List Pt) {m n m' n' : Nat}, cnL ks m n = some (m', n') → m ≤ m' ∧ n ≤ n'
 | [], m, n, m', n', h => by unfold cnL at h; injection h with h; injection h with h1 h2; omega
 | k :: ks, m, n, m', n', h => by
  unfold cnL at h
  cases hc : cn k m n with
  | none => rw [hc] at h; cases h
  | some s =>
   obtain ⟨a, b⟩ := s;rw [hc] at h;have := cn_mono k hc;have := cnL_mono ks h;omega
end
def Ws (T : List (Bs × Nat)) (k : Nat) (ws : List Bs) : Prop := ∀ j (h : j < ws.length), tkF T (k + j) = some ws[j]
section
variable {T : List (Bs × Nat)} {fin : Nat}
theorem Ws.cons {k : Nat} {a : Bs} {b : List Bs} (h : Ws T k (a :: b)) : tkF T k = some a ∧ Ws T (k + 1) b := by
 refine ⟨h 0 (Nat.zero_lt_succ _), fun j hj => ?_⟩;have := h (j + 1) (Nat.succ_lt_succ hj);rw [show k + 1 + j = k + (j + 1) by omega];exact this
theorem Ws.app {k : Nat} {a b : List Bs} (h : Ws T k (a ++ b)) : Ws T k a ∧ Ws T (k + a.length) b := by
 refine ⟨fun j hj => ?_, fun j hj => ?_⟩
 ·
  have := h j (by rw [List.length_append]; omega);rw [List.getElem_append_left hj] at this;exact this
 ·
  have := h (a.length + j) (by rw [List.length_append]; omega);rw [List.getElem_append_right (by omega)] at this;rw [show k + a.length + j = k + (a.length + j) by omega, this];simp
theorem wOk_head {w : Bs} (h : wOk w = true) (hn : w ≠ []) : isPn (w.headD 0) = false ∧ w ≠ [40] := by
 cases w with
 | nil => exact absurd rfl hn
 | cons c l =>
  simp only [wOk, List.all_cons, Bool.and_eq_true] at h;obtain ⟨p1, _⟩ := wordCh_parts h.1.1;refine ⟨p1, fun q => ?_⟩
  injection q with q _
  subst q;exact absurd p1 (by decide)
theorem wrd_of {α : Type} {f : Bs → PS → Option (α × PS)} {x y : PS} {a : α} {s : Bs} (ht : tkF T x.i = some s) (hw : wOk s = true) (hn : s ≠ []) (hf : f s x = some (a, y)) : wrdF T fin f x = .ok (a, ⟨x.i + 1, y.vs, y.ms⟩) := by
 unfold wrdF;rw [ht];dsimp only;rw [if_neg (by rw [(wOk_head hw hn).1]; decide), hf]
theorem fin7 {v : Int} (h0 : 0 < v) (h1 : v ≤ 6) : ∃ u : Fin 7, v = (u.val : Int) ∧ 1 ≤ u.val := ⟨⟨v.toNat, by omega⟩, by show v = (v.toNat : Int); omega, by show 1 ≤ v.toNat; omega⟩
theorem look_vn {m m' : Nat} {v : Int} {left : Bool} (h0 : 0 < v) (h6 : v ≤ 6) (hm : m' ≤ 6) (hc : (if v ≤ m then some m else if v = m + 1 then some (m + 1) else none) = some m') (hl : left = false → m' = m) : lookF (nm7 m) (UInt8.ofNat (96 + v.toNat)) left = (v.toNat, nm7 m') := by
 obtain ⟨u, hu, hu1⟩ := fin7 h0 h6
 have ev : v.toNat = u.val := by omega
 rw [ev]
 split at hc
 ·
  injection hc with hc
  subst hc;exact (look_v ⟨m, by omega⟩ u left).1 ⟨hu1, by show u.val ≤ m; omega⟩
 ·
  split at hc
  ·
   injection hc with hc
   subst hc
   cases left with
   | false => have := hl rfl; omega
   | true => exact (look_v ⟨m, by omega⟩ u true).2 (by show u.val = m + 1; omega)
  ·
   cases hc
theorem look_in {m m' : Nat} {v : Int} {left : Bool} (h0 : 0 < v) (h6 : v ≤ 6) (hm : m' ≤ 6) (hc : cnI v m = some m') (hl : left = false → m' = m) : lookF (ni7 m) (UInt8.ofNat (106 + v.toNat)) left = (v.toNat, ni7 m') := by
 obtain ⟨u, hu, hu1⟩ := fin7 h0 h6
 have ev : v.toNat = u.val := by omega
 rw [ev];unfold cnI at hc;rw [if_pos h0] at hc
 split at hc
 ·
  injection hc with hc
  subst hc;exact (look_i ⟨m, by omega⟩ u left).1 ⟨hu1, by show u.val ≤ m; omega⟩
 ·
  split at hc
  ·
   injection hc with hc
   subst hc
   cases left with
   | false => have := hl rfl; omega
   | true => exact (look_i ⟨m, by omega⟩ u true).2 (by show u.val = m + 1; omega)
  ·
   cases hc
theorem vn_dec {v : Int} (h0 : 0 < v) (h6 : v ≤ 6) : decF (vnF v) = none ∧ isLw (UInt8.ofNat (96 + v.toNat)) = true := by
 obtain ⟨u, hu, hu1⟩ := fin7 h0 h6;have := vn_parts u hu1;unfold vnF;rw [show v.toNat = u.val by omega];exact this
theorem in_dec {v : Int} (h0 : 0 < v) (h6 : v ≤ 6) : decF (36 :: inF v) = none ∧ decF (inF v) = none ∧ isLw (UInt8.ofNat (106 + v.toNat)) = true := by
 obtain ⟨u, hu, hu1⟩ := fin7 h0 h6;have := in_parts u hu1;unfold inF;rw [show v.toNat = u.val by omega];exact this
theorem varF2 (a b : UInt8) (c : Nat) (l : Bs) (left : Bool) : varF [a, b] c l left = if a.toNat = c ∧ isLw b = true then lookF l b left else (0, l) := rfl
theorem varF_vn {v : Int} (h0 : 0 < v) (h6 : v ≤ 6) (l : Bs) (left : Bool) : varF (vnF v) 63 l left = lookF l (UInt8.ofNat (96 + v.toNat)) left := by
 unfold vnF;rw [varF2, if_pos ⟨rfl, (vn_dec h0 h6).2⟩]
theorem varF_in {v : Int} (h0 : 0 < v) (h6 : v ≤ 6) (l : Bs) (left : Bool) : varF (36 :: inF v) 63 l left = (0, l) ∧ varF (36 :: inF v) 36 l left = lookF l (UInt8.ofNat (106 + v.toNat)) left := by
 unfold inF;refine ⟨?_, ?_⟩
 ·
  rw [varF2, if_neg (fun q => absurd q.1 (by decide))]
 ·
  rw [varF2, if_pos ⟨rfl, (in_dec h0 h6).2.2⟩]
theorem op_nm {op : Int} (h0 : 4 ≤ op) (h1 : op < 32) : opF (opNm op) = some op.toNat ∧ (opNm op).all (fun c => decide (c.toNat ≠ 46)) = true := by
 obtain ⟨i, hi⟩ : ∃ i : Fin 28, op = 4 + (i.val : Int) := ⟨⟨(op - 4).toNat, by omega⟩, by show op = 4 + ((op - 4).toNat : Int); omega⟩;have := op_parts i;unfold opNm;rw [show (op - 4).toNat = i.val by omega, show op.toNat = 4 + i.val by omega, List.getD, List.getElem?_eq_getElem i.isLt, Option.getD_some];exact this
theorem take_nm {a b : Bs} (ha : a.all (fun c => decide (c.toNat ≠ 46)) = true) (hb : b = [] ∨ ∃ t, b = 46 :: t) : (a ++ b).takeWhile (fun c => decide (c.toNat ≠ 46)) = a := by
 rw [List.takeWhile_append_of_pos (fun x hx => List.all_eq_true.1 ha x hx)]
 rcases hb with rfl | ⟨t, rfl⟩
 ·
  simp
 ·
  rw [List.takeWhile_cons_of_neg (by decide), List.append_nil]
theorem oper_of {left : Bool} {op imm iv : Int} {ks : List Pt} {i m n n' : Nat} (h : Fm6 (.mk 0 op imm iv ks)) (ho : 4 ≤ op) (hc : cnI iv n = some n') (hn : n' ≤ 6) (hl : left = false → n' = n) : operF left (opNm op ++ sfx op imm iv) ⟨i, nm7 m, ni7 n⟩ = some (.mk 0 op imm iv [], ⟨i, nm7 m, ni7 n'⟩) := by
 cases h with
 | var _ _ => omega
 | cst _ => omega
 | cim _ _ => omega
 | app h1 h2 h3 h4 h5 h6 h7 h8 h9 =>
  obtain ⟨o1, o2⟩ := op_nm h1 h2
  have hs : sfx op imm iv = [] ∨ ∃ t, sfx op imm iv = 46 :: t := by
   unfold sfx
   split
   ·
    exact .inr ⟨_, rfl⟩
   ·
    split
    ·
     exact .inr ⟨_, rfl⟩
    ·
     exact .inl rfl
  unfold operF;dsimp only;rw [take_nm o2 hs, o1];dsimp only;rw [show ((op.toNat : Nat) : Int) = op by omega, h3, List.drop_left]
  have hdec : decide ((opNm op).length < (opNm op ++ sfx op imm iv).length) = !(sfx op imm iv).isEmpty := by
   rw [List.length_append]
   cases sfx op imm iv <;> simp
  rw [hdec]
  cases him : immOp op with
  | false =>
   obtain ⟨e1, e2⟩ := h8 him;subst e1 e2
   have e3 : sfx op 0 0 = [] := by unfold sfx; rw [if_neg (by decide), if_neg (by rw [him]; decide)]
   rw [e3]
   have e4 : n' = n := by unfold cnI at hc; rw [if_neg (by decide)] at hc; injection hc with hc; exact hc.symm
   subst e4;simp
  | true =>
   by_cases hv : 0 < iv
   ·
    have e3 : sfx op imm iv = 46 :: inF iv := by unfold sfx; rw [if_pos hv]
    have e4 := h7 (by omega);subst e4;obtain ⟨_, d2, d3⟩ := in_dec hv h6;have d4 := look_in (left := left) hv h6 hn hc hl;rw [e3];simp only [List.isEmpty_cons, List.tail_cons, d2];rw [show inF iv = [UInt8.ofNat (106 + iv.toNat)] from rfl];simp only [d3, d4];rw [if_neg (by simp), if_neg (by simp), if_pos ⟨trivial, by omega⟩];rw [show ((iv.toNat : Nat) : Int) = iv by omega]
   ·
    have e3 : sfx op imm iv = 46 :: textF imm := by unfold sfx; rw [if_neg hv, if_pos him]
    have e4 : iv = 0 := by omega
    subst e4
    have e5 : n' = n := by unfold cnI at hc; rw [if_neg (by decide)] at hc; injection hc with hc; exact hc.symm
    subst e5;rw [e3];simp only [List.isEmpty_cons, List.tail_cons, decF_text h4];rw [if_neg (by simp), if_neg (by simp)]
theorem wOk_opw {op imm iv : Int} (h1 : 4 ≤ op) (h2 : op < 32) (h6 : iv ≤ 6) : wOk (opNm op ++ sfx op imm iv) = true ∧ opNm op ++ sfx op imm iv ≠ [] := by
 obtain ⟨o1, o2⟩ := opNm_ok h1 h2;exact ⟨wOk_app o1 (wOk_sfx h6), fun q => o2 (List.append_eq_nil_iff.1 q).1⟩
mutual
theorem rt_term (left : Bool) : ∀ (p : Pt), Fm6 p → ∀ {m n m' n' k f : Nat}, cn p m n = some (m', n') → m' ≤ 6 → n' ≤ 6 → (left = false → m' = m ∧ n' = n) → Ws T k (wT p) → p.size ≤ f → termF T fin left f ⟨k, nm7 m, ni7 n⟩ = .ok (p, ⟨k + (wT p).length, nm7 m', ni7 n'⟩)
 | .mk v op imm iv ks, h, m, n, m', n', k, f, hc, hm, hn, hl, hw, hf => by
  have hsz : (Pt.mk v op imm iv ks).size = 1 + Pt.sizeL ks := by rw [Pt.size_eq]; rfl
  rw [hsz] at hf;obtain ⟨f, rfl⟩ : ∃ g, f = g + 1 := ⟨f - 1, by omega⟩;rw [termF_succ];have h0 := h
  cases h with
  | var h1 h2 =>
   have ew : wT (.mk v 0 0 0 []) = [vnF v] := by rw [wT, if_pos h1]
   rw [ew] at hw ⊢;have ht := hw.cons.1;have hwo := wOk_vn h1 h2
   have hne : vnF v ≠ [] := by simp [vnF]
   unfold cn at hc;rw [if_pos h1] at hc
   have hcv : (if v ≤ m then some m else if v = m + 1 then some (m + 1) else none) = some m' ∧ n' = n := by
    split at hc
    ·
     rename_i q; injection hc with hc; injection hc with h3 h4; rw [if_pos q, h3]; exact ⟨rfl, h4.symm⟩
    ·
     rename_i q
     split at hc
     ·
      rename_i q2; injection hc with hc; injection hc with h3 h4; rw [if_neg q, if_pos q2, h3]; exact ⟨rfl, h4.symm⟩
     ·
      cases hc
   obtain ⟨hcv, rfl⟩ := hcv;rw [if_neg (by show ¬ tkF T k = _; rw [ht]; intro q; injection q with q; exact (wOk_head hwo hne).2 q)];have hlk := look_vn (left := left) h1 h2 hm hcv (fun q => (hl q).1)
   have ha : atomF left (vnF v) ⟨k, nm7 m, ni7 n'⟩ = some (.mk v 0 0 0 [], ⟨k, nm7 m', ni7 n'⟩) := by
    unfold atomF;rw [(vn_dec h1 h2).1];dsimp only;rw [varF_vn h1 h2, hlk];dsimp only;rw [if_pos (by omega), show ((v.toNat : Nat) : Int) = v by omega]
   exact wrd_of (x := ⟨k, nm7 m, ni7 n'⟩) ht hwo hne ha
  | cst h1 =>
   have ew : wT (.mk 0 1 imm 0 []) = [textF imm] := by rw [wT]; simp
   rw [ew] at hw ⊢;have ht := hw.cons.1;have hwo := wOk_text imm;have hne := textF_ne imm
   have hc2 : m' = m ∧ n' = n := by
    simp [cn, cnI, cnL] at hc;omega
   obtain ⟨rfl, rfl⟩ := hc2;rw [if_neg (by show ¬ tkF T k = _; rw [ht]; intro q; injection q with q; exact (wOk_head hwo hne).2 q)]
   have ha : atomF left (textF imm) ⟨k, nm7 m', ni7 n'⟩ = some (.mk 0 1 imm 0 [], ⟨k, nm7 m', ni7 n'⟩) := by
    unfold atomF;rw [decF_text h1]
   exact wrd_of (x := ⟨k, nm7 m', ni7 n'⟩) ht hwo hne ha
  | cim h1 h2 =>
   have ew : wT (.mk 0 1 0 iv []) = [36 :: inF iv] := by rw [wT]; simp [h1]
   rw [ew] at hw ⊢;have ht := hw.cons.1;have hwo : wOk (36 :: inF iv) = true := wOk_app (a := [36]) (by decide) (wOk_in h1 h2)
   have hne : 36 :: inF iv ≠ [] := by simp
   have hc2 : cnI iv n = some n' ∧ m' = m := by
    unfold cn at hc;rw [if_neg (by decide)] at hc
    cases hq : cnI iv n with
    | none => rw [hq] at hc; cases hc
    | some n2 =>
     rw [hq] at hc;simp only [cnL] at hc
     injection hc with hc; injection hc with h3 h4
     rw [h4]; exact ⟨rfl, h3.symm⟩
   obtain ⟨hcv, rfl⟩ := hc2;rw [if_neg (by show ¬ tkF T k = _; rw [ht]; intro q; injection q with q; exact (wOk_head hwo hne).2 q)];have hlk := look_in (left := left) h1 h2 hn hcv (fun q => (hl q).2)
   have ha : atomF left (36 :: inF iv) ⟨k, nm7 m', ni7 n⟩ = some (.mk 0 1 0 iv [], ⟨k, nm7 m', ni7 n'⟩) := by
    unfold atomF;rw [(in_dec h1 h2).1];dsimp only;rw [(varF_in h1 h2 _ _).1, (varF_in h1 h2 _ _).2, hlk];dsimp only;rw [if_neg (by decide), if_pos (by omega), show ((iv.toNat : Nat) : Int) = iv by omega]
   exact wrd_of (x := ⟨k, nm7 m', ni7 n⟩) ht hwo hne ha
  | app h1 h2 h3 h4 h5 h6 h7 h8 h9 =>
   have q1 : ¬ op = 1 := by omega
   have ew : wT (.mk 0 op imm iv ks) = [40] :: (opNm op ++ sfx op imm iv) :: (wTL ks ++ [[41]]) := by rw [wT]; simp [q1]
   rw [ew] at hw ⊢;obtain ⟨t1, hw⟩ := hw.cons;obtain ⟨t2, hw⟩ := hw.cons;obtain ⟨w1, w2⟩ := hw.app;have t3 := w2.cons.1;unfold cn at hc;rw [if_neg (by decide)] at hc
   cases hq : cnI iv n with
   | none => rw [hq] at hc; cases hc
   | some n2 =>
    rw [hq] at hc;have mo := cnL_mono ks hc;have m2 := cnI_mono hq;rw [if_pos t1];obtain ⟨o1, o2⟩ := wOk_opw (imm := imm) h1 h2 h6;have hop := oper_of (left := left) (i := k + 1) (m := m) h0 h1 hq (by omega) (fun q => by have := hl q; omega);have e1 := wrd_of (fin := fin) (x := ⟨k + 1, nm7 m, ni7 n⟩) t2 o1 o2 hop
    have e2 := rt_kids left ks h9 (f := f) hc hm hn (fun q => by have := hl q; omega) w1 (by omega);unfold appF;rw [show ({ (⟨k, nm7 m, ni7 n⟩ : PS) with i := k + 1 } : PS) = ⟨k + 1, nm7 m, ni7 n⟩ from rfl, e1];dsimp only [Pt.op, Pt.imm, Pt.iv];rw [h3, Option.getD_some, e2];dsimp only
    have e3 : expF T fin [41] ⟨k + 1 + 1 + (wTL ks).length, nm7 m', ni7 n'⟩ = .ok ⟨k + 1 + 1 + (wTL ks).length + 1, nm7 m', ni7 n'⟩ := by
     unfold expF;dsimp only;rw [if_pos t3]
    rw [e3];dsimp only
    congr 2
    simp only [List.length_cons, List.length_append, List.length_nil]
    congr 1
    omega
theorem rt_kids (left : Bool) : ∀ (ks : List Pt), (∀ q ∈ ks, Fm6 q) → ∀ {m n m' n' k f : Nat}, cnL ks m n = some (m', n') → m' ≤ 6 → n' ≤ 6 → (left = false → m' = m ∧ n' = n) → Ws T k (wTL ks) → Pt.sizeL ks ≤ f → kidsF (termF T fin left f) ks.length ⟨k, nm7 m, ni7 n⟩ = .ok (ks, ⟨k + (wTL ks).length, nm7 m', ni7 n'⟩)
 | [], _, m, n, m', n', k, f, hc, _, _, _, _, _ => by
  unfold cnL at hc
  injection hc with hc; injection hc with h1 h2
  subst h1 h2;simp [kidsF, wTL]
 | p :: ks, h, m, n, m', n', k, f, hc, hm, hn, hl, hw, hf => by
  unfold cnL at hc
  cases hq : cn p m n with
  | none => rw [hq] at hc; cases hc
  | some s =>
   obtain ⟨a, b⟩ := s;rw [hq] at hc;dsimp only at hc;have m1 := cn_mono p hq;have m2 := cnL_mono ks hc;unfold wTL at hw ⊢;obtain ⟨w1, w2⟩ := hw.app;simp only [Pt.sizeL] at hf;have e1 := rt_term left p (h p List.mem_cons_self) (f := f) hq (by omega) (by omega) (fun q => by have := hl q; omega) w1 (by omega)
   have e2 := rt_kids left ks (fun q hq => h q (List.mem_cons_of_mem _ hq)) (f := f) hc hm hn (fun q => by have := hl q; omega) w2 (by omega);rw [List.length_cons, kidsF, e1];dsimp only;rw [e2];dsimp only;rw [List.length_append, Nat.add_assoc]
end
end
structure CdIn (m n : Nat) (c : Cd) : Prop where
 a1 : c.kind ≤ 5 → c.a ≤ m
 a2 : c.kind = 6 → c.a ≤ n
 b1 : c.kind = 4 → c.b ≤ m
 b2 : 5 ≤ c.kind → c.b ≤ n
section
variable {T : List (Bs × Nat)} {fin : Nat}
theorem vn_ne (a : Int) : vnF a ≠ [] := by simp [vnF]
theorem in_ne (a : Int) : inF a ≠ [] := by simp [inF]
theorem pvar_rt {k m : Nat} {a : Int} {ms : Bs} (ht : tkF T k = some (vnF a)) (h0 : 0 < a) (h1 : a ≤ m) (hm : m ≤ 6) : pvarF T fin ⟨k, nm7 m, ms⟩ = .ok (a.toNat, ⟨k + 1, nm7 m, ms⟩) := by
 have hl := look_vn (m := m) (m' := m) (left := false) h0 (by omega) hm (by rw [if_pos h1]) (fun _ => rfl)
 have h6 : a ≤ 6 := by omega
 unfold pvarF;refine wrd_of (x := ⟨k, nm7 m, ms⟩) (y := ⟨k, nm7 m, ms⟩) ht (wOk_vn h0 h6) (vn_ne a) ?_;rw [varF_vn h0 h6, hl];dsimp only;rw [if_pos (by omega)]
theorem ivar_rt {k n : Nat} {a : Int} {vs : Bs} (ht : tkF T k = some (inF a)) (h0 : 0 < a) (h1 : a ≤ n) (hn : n ≤ 6) : ivarF T fin ⟨k, vs, ni7 n⟩ = .ok (a.toNat, ⟨k + 1, vs, ni7 n⟩) := by
 have hl := look_in (m := n) (m' := n) (left := false) h0 (by omega) hn (by unfold cnI; rw [if_pos h0, if_pos h1]) (fun _ => rfl)
 have h6 : a ≤ 6 := by omega
 unfold ivarF;refine wrd_of (x := ⟨k, vs, ni7 n⟩) (y := ⟨k, vs, ni7 n⟩) ht (wOk_in h0 h6) (in_ne a) ?_;unfold inF;dsimp only;rw [hl];dsimp only;rw [if_pos ⟨(in_dec h0 h6).2.2, by omega⟩]
theorem numb_rt {k : Nat} {n : Int} {vs ms : Bs} (ht : tkF T k = some (textF n)) (h : I64 n) : numbF T fin ⟨k, vs, ms⟩ = .ok (n, ⟨k + 1, vs, ms⟩) := by
 unfold numbF;refine wrd_of (x := ⟨k, vs, ms⟩) (y := ⟨k, vs, ms⟩) ht (wOk_text n) (textF_ne n) ?_;rw [decF_text h];rfl
theorem kind_rt {k : Nat} {d : Int} {vs ms : Bs} (ht : tkF T k = some (condNm d)) (h0 : 1 ≤ d) (h1 : d ≤ 6) : kindF T fin ⟨k, vs, ms⟩ = .ok (d.toNat, ⟨k + 1, vs, ms⟩) := by
 unfold kindF;refine wrd_of (x := ⟨k, vs, ms⟩) (y := ⟨k, vs, ms⟩) ht (condNm_ok h0 h1).1 (condNm_ok h0 h1).2 ?_;obtain ⟨i, hi⟩ : ∃ i : Fin 6, d = 1 + (i.val : Int) := ⟨⟨(d - 1).toNat, by omega⟩, by show d = 1 + ((d - 1).toNat : Int); omega⟩;have := cond_parts i;unfold condNm
 rw [show (d - 1).toNat = i.val by omega, show d.toNat = i.val + 1 by omega, List.getD, List.getElem?_eq_getElem i.isLt, Option.getD_some, this];rfl
theorem cond_rt {c : Cd} (h : Cd6 c) {k m n : Nat} (hi : CdIn m n c) (hm : m ≤ 6) (hn : n ≤ 6) (hw : Ws T k (wC c)) : pcondF T fin ⟨k, nm7 m, ni7 n⟩ = .ok (c, ⟨k + (wC c).length, nm7 m, ni7 n⟩) := by
 obtain ⟨kd, a, b, nn⟩ := c;have k0 := h.k0;have k1 := h.k1;have a0 := h.a0;have b0 := h.b0;have b1 := h.b1;have n0 := h.n0;have n1 := h.n1;have i1 := hi.a1;have i2 := hi.a2;have i3 := hi.b1;have i4 := hi.b2;dsimp only at k0 k1 a0 b0 b1 n0 n1 i1 i2 i3 i4;obtain ⟨t1, hw⟩ := hw.cons;dsimp only at t1 hw;have e1 := kind_rt (fin := fin) (vs := nm7 m) (ms := ni7 n) t1 k0 k1;unfold pcondF;rw [e1]
 dsimp only
 have hk : kd = 1 ∨ kd = 2 ∨ kd = 3 ∨ kd = 4 ∨ kd = 5 ∨ kd = 6 := by omega
 rcases hk with rfl | rfl | rfl | rfl | rfl | rfl
 ·
  have t2 := hw.cons.1;have e2 := pvar_rt (fin := fin) (ms := ni7 n) t2 a0 (i1 (by omega)) hm;simp only [show ((1 : Int).toNat) = 1 from rfl, e2];have := b1 (by omega); have := n0 (by omega) (by omega);subst b nn;simp [wC, Int.toNat_of_nonneg (Int.le_of_lt a0)]
 ·
  obtain ⟨t2, hw⟩ := hw.cons;have t3 := hw.cons.1;have e2 := pvar_rt (fin := fin) (ms := ni7 n) t2 a0 (i1 (by omega)) hm;have e3 := numb_rt (fin := fin) (vs := nm7 m) (ms := ni7 n) t3 n1;simp only [show ((2 : Int).toNat) = 2 from rfl, if_neg (show ¬ (2 : Nat) = 6 by decide), e2];rw [if_neg (by decide), if_pos (by decide), e3];dsimp only;have := b1 (by omega);subst b
  simp [wC, Int.toNat_of_nonneg (Int.le_of_lt a0)]
 ·
  obtain ⟨t2, hw⟩ := hw.cons;have t3 := hw.cons.1;have e2 := pvar_rt (fin := fin) (ms := ni7 n) t2 a0 (i1 (by omega)) hm;have e3 := numb_rt (fin := fin) (vs := nm7 m) (ms := ni7 n) t3 n1;simp only [show ((3 : Int).toNat) = 3 from rfl, if_neg (show ¬ (3 : Nat) = 6 by decide), e2];rw [if_neg (by decide), if_pos (by decide), e3];dsimp only;have := b1 (by omega);subst b
  simp [wC, Int.toNat_of_nonneg (Int.le_of_lt a0)]
 ·
  obtain ⟨t2, hw⟩ := hw.cons;have t3 := hw.cons.1;have hb := b0 (by omega);have e2 := pvar_rt (fin := fin) (ms := ni7 n) t2 a0 (i1 (by omega)) hm;have e3 := pvar_rt (fin := fin) (ms := ni7 n) t3 hb.1 (i3 (by omega)) hm;simp only [show ((4 : Int).toNat) = 4 from rfl, if_neg (show ¬ (4 : Nat) = 6 by decide), e2];rw [if_neg (by decide), if_neg (by decide), e3];dsimp only
  have := n0 (by omega) (by omega);subst nn;simp [wC, Int.toNat_of_nonneg (Int.le_of_lt a0), Int.toNat_of_nonneg (Int.le_of_lt hb.1)]
 ·
  obtain ⟨t2, hw⟩ := hw.cons;have t3 := hw.cons.1;have hb := b0 (by omega);have e2 := pvar_rt (fin := fin) (ms := ni7 n) t2 a0 (i1 (by omega)) hm;have e3 := ivar_rt (fin := fin) (vs := nm7 m) t3 hb.1 (i4 (by omega)) hn;simp only [show ((5 : Int).toNat) = 5 from rfl, if_neg (show ¬ (5 : Nat) = 6 by decide), e2];rw [if_neg (by decide), if_neg (by decide), if_neg (by decide), e3];dsimp only
  have := n0 (by omega) (by omega);subst nn;simp [wC, Int.toNat_of_nonneg (Int.le_of_lt a0), Int.toNat_of_nonneg (Int.le_of_lt hb.1)]
 ·
  obtain ⟨t2, hw⟩ := hw.cons;have t3 := hw.cons.1;have hb := b0 (by omega);have e2 := ivar_rt (fin := fin) (vs := nm7 m) t2 a0 (i2 (by omega)) hn;have e3 := ivar_rt (fin := fin) (vs := nm7 m) t3 hb.1 (i4 (by omega)) hn;simp only [show ((6 : Int).toNat) = 6 from rfl, if_true, e2];rw [if_neg (by decide), if_neg (by decide), if_neg (by decide), e3];dsimp only;have := n0 (by omega) (by omega)
  subst nn;simp [wC, Int.toNat_of_nonneg (Int.le_of_lt a0), Int.toNat_of_nonneg (Int.le_of_lt hb.1)]
theorem conds_rt {m n : Nat} (hm : m ≤ 6) (hn : n ≤ 6) : ∀ (cs : List Cd) (k f : Nat), (∀ c ∈ cs, Cd6 c ∧ CdIn m n c) → Ws T k (wCs cs false) → ¬ tkF T (k + (wCs cs false).length) = some [44] → cs.length < f → condsF T fin f ⟨k, nm7 m, ni7 n⟩ = .ok (cs, ⟨k + (wCs cs false).length, nm7 m, ni7 n⟩)
 | [], k, f, _, _, hn44, hf => by
  obtain ⟨f, rfl⟩ : ∃ g, f = g + 1 := ⟨f - 1, by omega⟩;simp only [wCs, List.length_nil, Nat.add_zero] at hn44;rw [condsF, if_neg hn44];rfl
 | c :: cs, k, f, h, hw, hn44, hf => by
  obtain ⟨f, rfl⟩ : ∃ g, f = g + 1 := ⟨f - 1, by omega⟩;obtain ⟨h1, h2⟩ := h c List.mem_cons_self
  have ew : wCs (c :: cs) false = [44] :: (wC c ++ wCs cs false) := by rw [wCs]; rfl
  rw [ew] at hw hn44 ⊢;obtain ⟨t1, hw⟩ := hw.cons;obtain ⟨w1, w2⟩ := hw.app;have e1 := cond_rt (fin := fin) h1 h2 hm hn w1
  have e2 := conds_rt hm hn cs (k + 1 + (wC c).length) f (fun d hd => h d (List.mem_cons_of_mem _ hd)) w2 (by
   intro q; apply hn44; rw [← q]; congr 1; simp only [List.length_cons, List.length_append]; omega) (by simp at hf; omega)
  rw [condsF, if_pos t1];dsimp only;rw [e1];dsimp only;rw [e2];dsimp only
  congr 2
  simp only [List.length_cons, List.length_append]
  congr 1
  omega
theorem if_rt {m n : Nat} (hm : m ≤ 6) (hn : n ≤ 6) (cs : List Cd) (k f : Nat) (h : ∀ c ∈ cs, Cd6 c ∧ CdIn m n c) (hw : Ws T k (wCs cs true)) (hx : tkF T (k + (wCs cs true).length) = some [59]) (hf : cs.length < f) : ifF T fin f ⟨k, nm7 m, ni7 n⟩ = .ok (cs, ⟨k + (wCs cs true).length, nm7 m, ni7 n⟩) := by
 cases cs with
 | nil =>
  simp only [wCs, List.length_nil, Nat.add_zero] at hx;unfold ifF;rw [if_neg (by dsimp only; rw [hx]; decide)];rfl
 | cons c cs =>
  obtain ⟨h1, h2⟩ := h c List.mem_cons_self
  have ew : wCs (c :: cs) true = [105, 102] :: (wC c ++ wCs cs false) := by rw [wCs]; rfl
  rw [ew] at hw hx ⊢;obtain ⟨t1, hw⟩ := hw.cons;obtain ⟨w1, w2⟩ := hw.app;have e1 := cond_rt (fin := fin) h1 h2 hm hn w1
  have e2 := conds_rt (fin := fin) hm hn cs (k + 1 + (wC c).length) f (fun d hd => h d (List.mem_cons_of_mem _ hd)) w2 (by
   rw [show k + 1 + (wC c).length + (wCs cs false).length = k + ([105, 102] :: (wC c ++ wCs cs false)).length by simp only [List.length_cons, List.length_append]; omega, hx]; decide) (by simp at hf; omega)
  unfold ifF;rw [if_pos t1];dsimp only;rw [e1];dsimp only;rw [e2];dsimp only
  congr 2
  simp only [List.length_cons, List.length_append]
  congr 1
  omega
end
theorem wT_len : ∀ p : Pt, Fm6 p → p.size ≤ (wT p).length := by
 intro p
 induction p using Pt.ind with
 | h p ih =>
  intro h
  have hk : (∀ k ∈ p.kids, Fm6 k) → Pt.sizeL p.kids ≤ (wTL p.kids).length := fun hk => by
   have key : ∀ ks : List Pt, (∀ k ∈ ks, k.size ≤ (wT k).length) → Pt.sizeL ks ≤ (wTL ks).length := by
    intro ks
    induction ks with
    | nil => intro _; simp [Pt.sizeL]
    | cons k ks ihk =>
     intro hh;have h1 := hh k List.mem_cons_self
     have h2 := ihk fun q hq => hh q (List.mem_cons_of_mem _ hq)
     simp only [Pt.sizeL, wTL, List.length_append];omega
   exact key _ fun k hq => ih k hq (hk k hq)
  rw [Pt.size_eq]
  cases h with
  | var h1 h2 => rw [wT, if_pos h1]; simp [Pt.sizeL, Pt.kids]
  | cst h1 => rw [wT]; simp [Pt.sizeL, Pt.kids]
  | cim h1 h2 => rw [wT]; simp [Pt.sizeL, Pt.kids]
  | app h1 h2 h3 h4 h5 h6 h7 h8 h9 =>
   have := hk h9;rename_i op imm iv ks
   have q1 : ¬ op = 1 := by omega
   rw [wT, if_neg (by decide), if_neg q1];simp only [List.length_cons, List.length_append, List.length_nil];dsimp only [Pt.kids] at *;omega
structure Rt (r : Rl) (m n : Nat) : Prop where
 t : Rt6 r
 vs : r.vars = (m : Int)
 is : r.imms = (n : Int)
 m6 : m ≤ 6
 n6 : n ≤ 6
 cl : cn r.l 0 0 = some (m, n)
 cr : cn r.r m n = some (m, n)
 ci : ∀ c ∈ r.conds, CdIn m n c
theorem wCs_len : ∀ (cs : List Cd) (b : Bool), cs.length ≤ (wCs cs b).length
 | [], b => by simp
 | c :: cs, b => by
  have := wCs_len cs false;rw [wCs];simp only [List.length_cons, List.length_append];omega
theorem ws_all (ws : List Bs) : Ws (ws.map fun s => (s, 0)) 0 ws := by
 intro j hj;unfold tkF;rw [Nat.zero_add, List.getElem?_map, List.getElem?_eq_getElem hj];rfl
theorem any_rt {T : List (Bs × Nat)} {fin k : Nat} {vs ms s : Bs} (ht : tkF T k = some s) (hw : wOk s = true) (hn : s ≠ []) : anyF T fin ⟨k, vs, ms⟩ = .ok (s, ⟨k + 1, vs, ms⟩) := by
 unfold anyF;exact wrd_of (x := ⟨k, vs, ms⟩) (y := ⟨k, vs, ms⟩) ht hw hn rfl
theorem exp_rt {T : List (Bs × Nat)} {fin k : Nat} {vs ms s : Bs} (ht : tkF T k = some s) : expF T fin s ⟨k, vs, ms⟩ = .ok ⟨k + 1, vs, ms⟩ := by
 unfold expF;dsimp only;rw [if_pos ht]
theorem nm7_len (m : Nat) : (nm7 m).length = m := by simp [nm7]
theorem ni7_len (m : Nat) : (ni7 m).length = m := by simp [ni7]
theorem rule_rt {r : Rl} {m n : Nat} (h : Rt r m n) {ax : Bs → Option Rl} : ItemOk ax (wR r) r := by
 have hW := ws_all (wR r);obtain ⟨T, hT⟩ : ∃ T, ((wR r).map fun s => ((s, 0) : Bs × Nat)) = T := ⟨_, rfl⟩
 have hTl : T.length = (wR r).length := by rw [← hT, List.length_map]
 rw [hT] at hW
 have el : (wR r).length = 3 + (wT r.l).length + 1 + (wT r.r).length + (wCs r.conds true).length + 1 := by
  unfold wR;simp only [List.length_cons, List.length_append, List.length_nil]
 refine ⟨by intro q; rw [q] at el; simp at el, 0, ?_⟩;rw [hT]
 have hW2 : Ws T 0 ([114, 117, 108, 101] :: kx r.name :: [58] :: (wT r.l ++ ([61, 62] :: (wT r.r ++ (wCs r.conds true ++ [[59]]))))) := by
  have e : wR r = [114, 117, 108, 101] :: kx r.name :: [58] :: (wT r.l ++ ([61, 62] :: (wT r.r ++ (wCs r.conds true ++ [[59]])))) := by simp [wR]
  rw [← e];exact hW
 obtain ⟨t1, hW2⟩ := hW2.cons;obtain ⟨t2, hW2⟩ := hW2.cons;obtain ⟨t3, hW2⟩ := hW2.cons;obtain ⟨w1, hW2⟩ := hW2.app;obtain ⟨t4, hW2⟩ := hW2.cons;obtain ⟨w2, hW2⟩ := hW2.app;obtain ⟨w3, hW2⟩ := hW2.app;have t5 := hW2.cons.1;simp only [Nat.zero_add] at t1 t2 t3 w1 t4 w2 w3 t5;obtain ⟨n1, n2⟩ := name_ok h.t.n;have s1 := wT_len r.l h.t.l;have s2 := wT_len r.r h.t.r;have s3 := wCs_len r.conds true
 have e1 := any_rt (fin := 0) (vs := []) (ms := []) t2 n1 n2;have e2 := exp_rt (fin := 0) (vs := []) (ms := []) t3;have e3 := rt_term (fin := 0) true r.l h.t.l (f := T.length + 1) h.cl h.m6 h.n6 (fun q => by cases q) w1 (by omega);have e4 := exp_rt (fin := 0) (vs := nm7 m) (ms := ni7 n) t4
 have e5 := rt_term (fin := 0) false r.r h.t.r (f := T.length + 1) h.cr h.m6 h.n6 (fun _ => ⟨rfl, rfl⟩) w2 (by omega);have e6 := if_rt (fin := 0) h.m6 h.n6 r.conds _ (T.length + 1) (fun c hc => ⟨h.t.c c hc, h.ci c hc⟩) w3 t5 (by omega);have e7 := exp_rt (fin := 0) (vs := nm7 m) (ms := ni7 n) t5
 have e0 : ruleF T 0 ⟨1, [], []⟩ = .ok (r, ⟨(wR r).length, nm7 m, ni7 n⟩) := by
  unfold ruleF;dsimp only;rw [e1];dsimp only;rw [e2];dsimp only;rw [show (⟨1 + 1 + 1, [], []⟩ : PS) = ⟨1 + 1 + 1, nm7 0, ni7 0⟩ from rfl, e3];dsimp only;rw [e4];dsimp only;rw [e5];dsimp only;rw [e6];dsimp only;rw [e7];dsimp only;rw [nm7_len, ni7_len, ← h.vs, ← h.is];have en : (⟨(kx r.name).toArray⟩ : ByteArray) = r.name := rfl;rw [en]
  congr 2
  congr 1
  omega
 refine ⟨⟨(wR r).length, nm7 m, ni7 n⟩, ?_, rfl⟩;unfold itemF;rw [if_neg (by dsimp only; rw [t1]; decide)];rw [exp_rt t1];dsimp only;rw [show (0 : Nat) + 1 = 1 from rfl, e0];dsimp only
 have ho : offF T 0 1 = 0 := by
  unfold offF;rw [← hT, List.getElem?_map]
  cases (wR r)[1]? <;> rfl
 rw [ho]
theorem oS_ar {op : Int} (h : (oSortsF op).2.2 = true) (h4 : 4 ≤ op) : arF op = some (oSortsF op).1.length := by
 have h32 : op < 32 := by rcases oS_ops h with q | q <;> omega
 obtain ⟨i, hi⟩ : ∃ i : Fin 28, op = 4 + (i.val : Int) := ⟨⟨(op - 4).toNat, by omega⟩, by show op = 4 + ((op - 4).toNat : Int); omega⟩
 have key : ∀ i : Fin 28, (oSortsF (4 + (i.val : Int))).2.2 = true → arF (4 + (i.val : Int)) = some (oSortsF (4 + (i.val : Int))).1.length := by decide +kernel
 subst hi;exact key i h
theorem shp_fm6 (p : Pt) : ∀ (s m : Int) (n : Nat), shp p s m n = true → m ≤ 6 → n ≤ 6 → PI p → Fm6 p := by
 induction p using Pt.ind with
 | h p ih =>
  intro s m n hs hm hn hi
  by_cases hv : p.v = 0
  ·
   rw [shp_op hv, Bool.and_eq_true, decide_eq_true_iff] at hs;obtain ⟨⟨h1, h2, _, h4⟩, h5⟩ := hs;have hI := hi p (nodes_self p)
   have hks : ∀ k ∈ p.kids, Fm6 k := fun k hk => by
    obtain ⟨i, hi2, rfl⟩ := List.mem_iff_getElem.1 hk;exact ih _ hk _ m n (shpL_at hi2 h5) hm hn (hi.kid hk)
   have hiv : 0 ≤ p.iv ∧ p.iv ≤ 6 ∧ (p.iv ≠ 0 → p.imm = 0 ∧ hasImmF p.op = true) := by
    unfold pImmF at h4
    split at h4
    ·
     simp only [Bool.and_eq_true, decide_eq_true_iff] at h4; exact ⟨by omega, by omega, fun _ => ⟨h4.2.1, h4.1⟩⟩
    ·
     rename_i q; exact ⟨by omega, by omega, fun q2 => absurd q2 q⟩
   cases p with
   | mk v op imm iv ks =>
    dsimp only [Pt.v, Pt.op, Pt.imm, Pt.iv, Pt.kids] at *;subst hv
    rcases oS_ops h1 with rfl | ⟨a, b⟩
    ·
     have hk0 : ks = [] := List.length_eq_zero_iff.1 (by rw [h2]; rfl);subst hk0
     by_cases q : iv = 0
     ·
      subst q; exact .cst hI
     ·
      have := (hiv.2.2 q).1;subst this;exact .cim (by omega) hiv.2.1
    ·
     refine .app a b (by rw [oS_ar h1 a, h2]) hI hiv.1 hiv.2.1 (fun q => (hiv.2.2 q).1) (fun q => ?_) hks
     have q1 : ¬ (op = 1 ∨ op = 23 ∨ op = 27 ∨ op = 28) := by
      simp only [immOp, decide_eq_false_iff_not] at q;omega
     have e0 : iv = 0 := by
      by_cases q2 : iv = 0
      ·
       exact q2
      ·
       have := (hiv.2.2 q2).2;simp only [hasImmF, decide_eq_true_eq] at this;exact absurd this q1
     refine ⟨?_, e0⟩;unfold pImmF at h4
     split at h4
     ·
      rename_i q2; exact absurd e0 q2
     ·
      split at h4
      ·
       rename_i q2; dsimp only [Pt.op] at q2; exact absurd q2 (by omega)
      ·
       split at h4
       ·
        rename_i q2; dsimp only [Pt.op] at q2; exact absurd q2 (by omega)
       ·
        rw [decide_eq_true_eq] at h4; dsimp only [Pt.op, Pt.imm] at h4; omega
  ·
   rw [shp_var hv, decide_eq_true_iff] at hs
   cases p with
   | mk v op imm iv ks =>
    dsimp only [Pt.v, Pt.op, Pt.imm, Pt.iv, Pt.kids] at *
    obtain ⟨rfl, rfl, rfl, hk⟩ : op = 0 ∧ imm = 0 ∧ iv = 0 ∧ ks.length = 0 := by omega
    obtain rfl := List.length_eq_zero_iff.1 hk;exact .var (by omega) (by omega)
theorem cn_full (p : Pt) : ∀ (s m : Int) (n : Nat), shp p s m n = true → cn p n m.toNat = some (n, m.toNat) := by
 induction p using Pt.ind with
 | h p ih =>
  intro s m n hs
  by_cases hv : p.v = 0
  ·
   rw [shp_op hv, Bool.and_eq_true, decide_eq_true_iff] at hs;obtain ⟨⟨h1, h2, _, h4⟩, h5⟩ := hs
   have hiv : cnI p.iv m.toNat = some m.toNat := by
    unfold cnI;unfold pImmF at h4
    split at h4
    ·
     simp only [Bool.and_eq_true, decide_eq_true_iff] at h4;rw [if_pos (by omega), if_pos (by omega)]
    ·
     rename_i q; rw [if_neg (by omega)]
   have hks : cnL p.kids n m.toNat = some (n, m.toNat) := by
    have key : ∀ ks : List Pt, (∀ k ∈ ks, cn k n m.toNat = some (n, m.toNat)) → cnL ks n m.toNat = some (n, m.toNat) := by
     intro ks
     induction ks with
     | nil => intro _; simp [cnL]
     | cons k ks ihk =>
      intro hh;rw [cnL, hh k List.mem_cons_self]
      exact ihk fun q hq => hh q (List.mem_cons_of_mem _ hq)
    refine key _ fun k hk => ?_
    obtain ⟨i, hi2, rfl⟩ := List.mem_iff_getElem.1 hk;exact ih _ hk _ m n (shpL_at hi2 h5)
   cases p with
   | mk v op imm iv ks =>
    dsimp only [Pt.v, Pt.op, Pt.imm, Pt.iv, Pt.kids] at *;rw [cn, if_neg (by omega), hiv];exact hks
  ·
   rw [shp_var hv, decide_eq_true_iff] at hs
   cases p with
   | mk v op imm iv ks =>
    dsimp only [Pt.v, Pt.op, Pt.imm, Pt.iv, Pt.kids] at *;rw [cn, if_pos (by omega), if_pos (by omega)]
theorem cond_6 {c : Cd} {ss : List Int} {m : Int} {n : Nat} (h : condF c ss m = true) (hs : ss.length = n + 1) (hn6 : n ≤ 6) (hm : 0 ≤ m ∧ m ≤ 6) (hn : I64 c.n) : Cd6 c ∧ CdIn n m.toNat c := by
 unfold condF at h
 split at h
 ·
  simp only [isValF, Bool.and_eq_true, decide_eq_true_iff] at h;exact ⟨⟨by omega, by omega, by omega, by omega, by omega, by omega, by omega, hn⟩, ⟨by omega, by omega, by omega, by omega⟩⟩
 ·
  split at h
  ·
   simp only [isValF, Bool.and_eq_true, decide_eq_true_iff] at h;exact ⟨⟨by omega, by omega, by omega, by omega, by omega, by omega, by omega, hn⟩, ⟨by omega, by omega, by omega, by omega⟩⟩
  ·
   split at h
   ·
    simp only [isValF, Bool.and_eq_true, decide_eq_true_iff] at h;exact ⟨⟨by omega, by omega, by omega, by omega, by omega, by omega, by omega, hn⟩, ⟨by omega, by omega, by omega, by omega⟩⟩
   ·
    split at h
    ·
     simp only [isValF, isImmF, Bool.and_eq_true, decide_eq_true_iff] at h;exact ⟨⟨by omega, by omega, by omega, by omega, by omega, by omega, by omega, hn⟩, ⟨by omega, by omega, by omega, by omega⟩⟩
    ·
     split at h
     ·
      simp only [isImmF, Bool.and_eq_true, decide_eq_true_iff] at h;exact ⟨⟨by omega, by omega, by omega, by omega, by omega, by omega, by omega, hn⟩, ⟨by omega, by omega, by omega, by omega⟩⟩
     ·
      cases h
theorem rt_of {r : Rl} (h : implF r = true) (hi : RlI r) (hc : cn r.l 0 0 = some (r.vars.toNat, r.imms.toNat)) : Rt r r.vars.toNat r.imms.toNat := by
 have k := imp_ok h;have hv := k.vars;have him := k.imms
 have kc := fun x hx => cond_6 (n := r.vars.toNat) (k.cnd x hx) (by simp) (by omega) him (hi.c x hx)
 exact ⟨⟨k.name, shp_fm6 _ _ _ _ k.shl him.2 (by omega) hi.l, shp_fm6 _ _ _ _ k.shr him.2 (by omega) hi.r, fun x hx => (kc x hx).1⟩, by omega, by omega, by omega, by omega, hc, cn_full _ _ _ _ k.shr, fun x hx => (kc x hx).2⟩
theorem PtK.swap {w : World} {F : Nat → Prop} {p : Pt} {KA : Option Addr} {kc : Nat} (h : PtK w F p KA kc) (a b c d : Int) : PtK w F (.mk a b c d p.kids) KA kc := by
 rw [PtK.iff] at h ⊢;exact h
def NS (w : World) (A : Option Addr) (c : Nat) (vs : List Int) (B : Option Addr) (d : Nat) (ms : List Int) : Prop :=
 Own w 3 1 A vs.length c (icells vs) ∧ Own w 3 1 B ms.length d (icells ms) ∧ ∀ k, At A k → ¬ At B k
theorem NS.upd {w w' : World} {S : Nat → Prop} {A B : Option Addr} {c d : Nat} {vs ms : List Int} (h : NS w A c vs B d ms) (u : Upd S w w') (hA : ∀ k, At A k → ¬ S k) (hB : ∀ k, At B k → ¬ S k) : NS w' A c vs B d ms := ⟨h.1.upd u hA, h.2.1.upd u hB, h.2.2⟩
theorem NS.none_ (w : World) : NS w none 0 [] none 0 [] := ⟨Own.none_, Own.none_, fun _ h => (At.none_ h).elim⟩
end Go.Proofs.YtblkgjdhaibhgaaGreat
