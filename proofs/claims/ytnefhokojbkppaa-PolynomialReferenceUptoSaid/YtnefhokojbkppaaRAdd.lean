/-
  What the reference's addTerm does, with its plain form.
-/
import Derived.Test.YtnefhokojbkppaaSPoly
import Derived.Test.YtnefhokojbkppaaMild
import Derived.Test.YtnefhokojbkppaaPtV
namespace Go.Proofs.Ytnefhokojbkppaa
open Go.RowKit

/-- A monomial added to a sorted sum. -/
def addT : List Mn → Mn → List Mn
  | [], m => if m.2 = 0 then [] else [m]
  | a :: L, m => if lessF a.1 m.1 then a :: addT L m
    else if lessF m.1 a.1 then (if m.2 = 0 then a :: L else m :: a :: L)
    else (if (a.2 + m.2) % 18446744073709551616 = 0 then L else (m.1, (a.2 + m.2) % 18446744073709551616) :: L)
theorem addT_len : ∀ (L : List Mn) (m : Mn), (addT L m).length ≤ L.length + 1
  | [], m => by unfold addT; split <;> simp
  | a :: L, m => by
    have := addT_len L m
    unfold addT
    split
    · simp only [List.length_cons]; omega
    · split
      · split <;> simp
      · split
        · simp only [List.length_cons]; omega
        · simp
/-- How far the loop has come. -/
def AInv (L : List Mn) (m : Mn) (done : Bool) (k : Nat) (O : List Mn) : Prop :=
  match done with
  | true => O ++ L.drop k = addT L m
  | false => addT L m = O ++ addT (L.drop k) m
section
variable {L O : List Mn} {m a : Mn} {k : Nat}
theorem AInv.start : AInv L m false 0 [] := rfl
theorem AInv.skip (hk : k < L.length) (h : AInv L m true k O) : AInv L m true (k + 1) (O ++ [L[k]]) := by
  show _ = _
  rw [← show O ++ L.drop k = addT L m from h, List.drop_eq_getElem_cons hk, List.append_assoc]; rfl
theorem AInv.less (hk : k < L.length) (h : AInv L m false k O) (hl : lessF L[k].1 m.1 = true) : AInv L m false (k + 1) (O ++ [L[k]]) := by
  show _ = _
  rw [show addT L m = O ++ addT (L.drop k) m from h, List.drop_eq_getElem_cons hk, addT, if_pos hl, List.append_assoc]; rfl
theorem AInv.put (hk : k < L.length) (h : AInv L m false k O) (hl : lessF L[k].1 m.1 = false) (hr : lessF m.1 L[k].1 = true) (h0 : m.2 ≠ 0) : AInv L m true (k + 1) (O ++ [m] ++ [L[k]]) := by
  show _ = _
  rw [show addT L m = O ++ addT (L.drop k) m from h, List.drop_eq_getElem_cons hk, addT, if_neg (by simp [hl]), if_pos hr, if_neg h0]; simp
theorem AInv.put0 (hk : k < L.length) (h : AInv L m false k O) (hl : lessF L[k].1 m.1 = false) (hr : lessF m.1 L[k].1 = true) (h0 : m.2 = 0) : AInv L m true (k + 1) (O ++ [L[k]]) := by
  show _ = _
  rw [show addT L m = O ++ addT (L.drop k) m from h, List.drop_eq_getElem_cons hk, addT, if_neg (by simp [hl]), if_pos hr, if_pos h0]; simp
theorem AInv.join (hk : k < L.length) (h : AInv L m false k O) (hl : lessF L[k].1 m.1 = false) (hr : lessF m.1 L[k].1 = false) (h0 : (L[k].2 + m.2) % 18446744073709551616 ≠ 0) : AInv L m true (k + 1) (O ++ [(m.1, (L[k].2 + m.2) % 18446744073709551616)]) := by
  show _ = _
  rw [show addT L m = O ++ addT (L.drop k) m from h, List.drop_eq_getElem_cons hk, addT, if_neg (by simp [hl]), if_neg (by simp [hr]), if_neg h0]; simp
theorem AInv.join0 (hk : k < L.length) (h : AInv L m false k O) (hl : lessF L[k].1 m.1 = false) (hr : lessF m.1 L[k].1 = false) (h0 : (L[k].2 + m.2) % 18446744073709551616 = 0) : AInv L m true (k + 1) O := by
  show _ = _
  rw [show addT L m = O ++ addT (L.drop k) m from h, List.drop_eq_getElem_cons hk, addT, if_neg (by simp [hl]), if_neg (by simp [hr]), if_pos h0]
theorem AInv.fin (h : AInv L m true L.length O) : O = addT L m := by
  have : O ++ L.drop L.length = addT L m := h
  simpa using this
theorem AInv.fin1 (h : AInv L m false L.length O) (h0 : m.2 ≠ 0) : O ++ [m] = addT L m := by
  rw [show addT L m = O ++ addT (L.drop L.length) m from h]
  simp [addT, h0]
theorem AInv.fin0 (h : AInv L m false L.length O) (h0 : m.2 = 0) : O = addT L m := by
  rw [show addT L m = O ++ addT (L.drop L.length) m from h]
  simp [addT, h0]
end

/-- append of one monomial, its cells just laid. -/
theorem mon_app {P : Program} {w : World} {o : Oper} {a : Act} {K : Act → World → Prop} {Q : Exit → Act → World → Prop} {s x : Operand} {G : Nat → Prop}
    (T : SlT P 25 32 2 32) (ho : o.op = .call { callee := .builtin .append, args := #[s, x], argTypes := #[25, 25] }) {A : Option Addr} {n c : Nat} {L : List Mn} {m : Mn} {kl : Nat} (hkl : m.1.length = kl) {KA : Option Addr} {kc c2 : Nat} (hs : a.eval s = .slice A n c) (h : MonsO w G A n c L)
    (hx : a.eval x = .slice (some ⟨w.heap.size, 0, none⟩) 1 c2) (hk : Ints w (fun k => G k ∧ ¬ At A k) KA m.1) (hkc : kl ≤ kc) (h63 : n ≤ 1000000000000)
    (k : ∀ A' c' w', MonsO w' G A' (n + 1) c' (L ++ [m]) → Upd (At A) w w' → (∀ k, At A' k → At A k ∨ w.heap.size ≤ k) → K (a.put o.dst (.slice A' (n + 1) c')) w') : o.wp P a (w.alloc (.cells #[.slice KA kl kc, .int .u64 m.2] 32)) K Q := by
  subst hkl
  obtain ⟨hj1, cs, hoc, hcc⟩ := id h
  refine wp_app ho T hs (hoc.alloc _) hx (Sl.new _ _ [.slice KA m.1.length kc, .int .u64 m.2]) rfl (by simp [Value.oneCell']) (by simp only [maxLen]; omega) (by omega) (fun A8 c8 w8 ho8 hu8 hat8 => ?_)
  have hal := Upd.refl.alloc (S := Non) (w := w) (.cells #[.slice KA m.1.length kc, .int .u64 m.2] 32)
  refine k A8 c8 w8 ?_ ((hal.mono (fun _ _ f => f.elim)).trans hu8 (fun _ _ h => h)) (fun k hk => (hat8 k hk).imp_right (fun e => by rw [e]; simp))
  exact MonsO.snoc (m := m) (G' := G) (h.upd hal (fun _ _ f => f) (fun _ _ _ f => f)) (hcc.mono hal (fun _ _ _ f => f) (fun _ _ h => h)) (hk.upd hal (fun _ _ _ f => f)) hkc ho8 hu8 hat8 (fun _ _ h => h)
theorem wpList_mon {P : Program} {w : World} {ops : Array Oper} {rest : List Oper} {o : Oper} {a : Act} {Q : Exit → Act → World → Prop} (hgd : o.guard = none) {s x : Operand} {G : Nat → Prop}
    (T : SlT P 25 32 2 32) (ho : o.op = .call { callee := .builtin .append, args := #[s, x], argTypes := #[25, 25] }) {A : Option Addr} {n c : Nat} {L : List Mn} {m : Mn} {kl : Nat} (hkl : m.1.length = kl) {KA : Option Addr} {kc c2 : Nat} (hs : a.eval s = .slice A n c) (h : MonsO w G A n c L)
    (hx : a.eval x = .slice (some ⟨w.heap.size, 0, none⟩) 1 c2) (hk : Ints w (fun k => G k ∧ ¬ At A k) KA m.1) (hkc : kl ≤ kc) (h63 : n ≤ 1000000000000)
    (k : ∀ A' c' w', MonsO w' G A' (n + 1) c' (L ++ [m]) → Upd (At A) w w' → (∀ k, At A' k → At A k ∨ w.heap.size ≤ k) → wpList P ops Q rest (a.put o.dst (.slice A' (n + 1) c')) w') : wpList P ops Q (o :: rest) a (w.alloc (.cells #[.slice KA kl kc, .int .u64 m.2] 32)) :=
  wpList_plain hgd fun _ hK => mon_app T ho hkl hs h hx hk hkc h63 fun A' c' w' h1 h2 h3 => hK _ _ (k A' c' w' h1 h2 h3)
theorem step_mon {P : Program} {w : World} {ops : Array Oper} {o : Oper} {a : Act} {K : Act → World → Prop} {Q : Exit → Act → World → Prop} {E : Prop} (hgd : o.guard = none) {s x : Operand} {G : Nat → Prop}
    (T : SlT P 25 32 2 32) (ho : o.op = .call { callee := .builtin .append, args := #[s, x], argTypes := #[25, 25] }) {A : Option Addr} {n c : Nat} {L : List Mn} {m : Mn} {kl : Nat} (hkl : m.1.length = kl) {KA : Option Addr} {kc c2 : Nat} (hs : a.eval s = .slice A n c) (h : MonsO w G A n c L)
    (hx : a.eval x = .slice (some ⟨w.heap.size, 0, none⟩) 1 c2) (hk : Ints w (fun k => G k ∧ ¬ At A k) KA m.1) (hkc : kl ≤ kc) (h63 : n ≤ 1000000000000)
    (k : ∀ A' c' w', MonsO w' G A' (n + 1) c' (L ++ [m]) → Upd (At A) w w' → (∀ k, At A' k → At A k ∨ w.heap.size ≤ k) → K (a.put o.dst (.slice A' (n + 1) c')) w') :
    if Region.wanted o (yielded ops a.tmps) = true then Oper.wp P o a (w.alloc (.cells #[.slice KA kl kc, .int .u64 m.2] 32)) K Q else E := by
  have hw : Region.wanted o (yielded ops a.tmps) = true := by simp [Region.wanted, hgd]
  rw [if_pos hw]
  exact mon_app T ho hkl hs h hx hk hkc h63 k

set_option maxRecDepth 100000 in
set_option maxHeartbeats 4000000 in
theorem addTerm_c (w : World) (F : Nat → Prop) (A KA : Option Addr) (c kc : Nat) (L : List Mn) (x : List Int) (d : Int) (hL : MonsV w F A L) (hx : Ints w F KA x) (hl : ∀ m ∈ L, m.1.length = x.length) (hkc : x.length ≤ kc) (hn : L.length ≤ 100000000000) (hn2 : x.length ≤ 100000000000) :
    Calls Try.prog 70 #[.slice A L.length c, .agg #[.slice KA x.length kc, .int .u64 d]] w fun e w' => ∃ B c', e = .returned (.slice B (addT L (x, d)).length c') ∧ MonsV w' (fun j => F j ∨ w.heap.size ≤ j) B (addT L (x, d)) ∧ (addT L (x, d)).length ≤ c' ∧ Upd Non w w' := by
  have hL := hL.mono (G := fun k => k < w.heap.size ∧ F k) (fun _ h f => ⟨h, f⟩)
  have hx := hx.mono (G := fun k => k < w.heap.size ∧ F k) (fun _ h f => ⟨h, f⟩)
  obtain ⟨W, HW⟩ := nm (w.alloc (.cells #[.slice KA x.length kc, .int .u64 d] 32))
  have hU : Upd Non w W := by rw [← HW.out]; exact Upd.refl.alloc _
  have hb : Blk W w.heap.size 32 #[.slice KA x.length kc, .int .u64 d] := by rw [← HW.out]; exact Blk.new _ _ _
  have hWs : W.heap.size = w.heap.size + 1 := by rw [← HW.out]; simp
  have e0 := HW.out
  have hL := hL.upd hU (fun _ _ _ f => f)
  have hx := hx.upd hU (fun _ _ _ f => f)
  have HLL := Lib.hid hl
  obtain ⟨R, HR⟩ := nm (addT L (x, d))
  rw [HR.out]
  obtain ⟨n, Hn⟩ := nm L.length
  obtain ⟨q, Hq⟩ := nm x.length
  rw [Hn.out] at hn ⊢
  rw [Hq.out] at hkc hn2 hb e0 ⊢
  clear hl
  go_enter Try.func70, Try.ntmps70
  go_wp2_with fail
  go_loopg [5, 6, 7] n (fun g out dn i wr => ∃ (k nb cb : Nat) (done : Bool) (B : Option Addr) (O : List Mn), Hid (g = n - k) ∧ k ≤ n ∧ out = .slice B nb cb ∧ dn = .bool done ∧ i = .int .i64 k ∧ MonsO wr (fun j => j < w.heap.size ∧ F j) B nb cb O ∧ nb ≤ 2 * k ∧ Hid (∀ j, At B j → w.heap.size < j) ∧ Hid (AInv L (x, d) done k O) ∧ Upd Non W wr)
  case atStart => exact ⟨0, 0, 0, false, none, [], rfl, by omega, rfl, rfl, rfl, MonsO.none_, by omega, fun j hj => (At.none_ hj).elim, AInv.start, Upd.refl⟩
  case round =>
    obtain ⟨k, nb, cb, done, B, O, Hg, hk, rfl, rfl, rfl, ho, hnb, HB, HI, hu⟩ := hrel
    by_cases hlt : k < n
    · have hkL : k < L.length := by rw [Hn.out]; exact hlt
      obtain ⟨b, o, rfl, ⟨hF, _⟩, hbw, LA, lc, h0, h1, h2, h3⟩ := (hL.upd hu (fun _ _ _ f => f)).at_ hkL
      have hml := HLL.out L[k] (List.getElem_mem hkL)
      have HIk := Lib.hid (And.intro (@AInv.skip L O (x, d) k hkL) (And.intro (@AInv.less L O (x, d) k hkL) (And.intro (@AInv.put L O (x, d) k hkL) (And.intro (@AInv.put0 L O (x, d) k hkL) (And.intro (@AInv.join L O (x, d) k hkL) (@AInv.join0 L O (x, d) k hkL))))))
      generalize L[k] = y at *
      obtain ⟨ye, yc⟩ := y
      dsimp only at h0 h1 h2 h3 hml
      rw [Hq.out] at hml
      rw [hml] at h0 h2
      have HML := Lib.hid hml
      clear hml
      have hu2 := hU.then_non hu
      have hbr := hb.upd hu (fun f => f)
      obtain ⟨wD, HwD⟩ := nm wr.drew
      have uD : Upd Non wr wD := by rw [← HwD.out]; exact Upd.refl.drew
      cases done with
      | true =>
        have HI1 : Hid (AInv L (x, d) true (k + 1) (O ++ [(ye, yc)])) := HIk.out.1 HI.out
        have d0 := cell_upd h0 uD (fun f => f)
        have d1 := cell_upd h1 uD (fun f => f)
        have ho1 := ho.upd uD (fun _ _ f => f) (fun _ _ _ f => f)
        have hky : Ints wD (fun j => (j < w.heap.size ∧ F j) ∧ ¬ At B j) LA ye := (h3.upd uD (fun _ _ _ f => f)).mono (fun j _ hj => ⟨hj, fun hA => by have := hj.1; have := HB.out j hA; omega⟩)
        have HUc := hu.then_non uD
        have HB1 := HB
        clear ho h3 h0 h1 hbr
        go_wp2_with fail
        refine wp_region_held_drew (S := fun _ => True) (by kernel_rfl) trivial (fun hHeld => ?_)
        rw [HwD.out]
        refine wpAnyH_take (i := 0) (v := ?_) rfl (by kernel_rfl) (by kernel_rfl) (by kernel_rfl) (fun _ _ _ h => h) (Or.inl ⟨by rfl, ?_⟩) (by assumption) ?_
        rotate_left
        · intro w hSw; (try dsimp only at hSw); go_simp; try with_reducible rfl
        try simp only [put_y]
        try simp only [Act.put]
        try simp only [put_z]
        refine wpAnyH_take (i := 1) (v := ?_) rfl (by kernel_rfl) (by kernel_rfl) (by kernel_rfl) (fun _ _ _ h => h) (Or.inl ⟨by rfl, ?_⟩) (by assumption) ?_
        rotate_left
        · intro w hSw; (try dsimp only at hSw); go_simp; try with_reducible rfl
        try simp only [put_y]
        try simp only [Act.put]
        try simp only [put_z]
        refine wpAnyH_take (i := 2) (v := ?_) rfl (by kernel_rfl) (by kernel_rfl) (by kernel_rfl) (fun _ _ _ h => h) (Or.inl ⟨by rfl, ?_⟩) (by assumption) ?_
        rotate_left
        · intro w hSw; (try dsimp only at hSw); go_simp; try with_reducible rfl
        try simp only [put_y]
        try simp only [Act.put]
        try simp only [put_z]
        refine wpAnyH_take (i := 3) (v := undef) rfl (by kernel_rfl) (by kernel_rfl) (by kernel_rfl) (fun _ _ _ h => h) (Or.inr ⟨by rfl, rfl⟩) (by assumption) ?_
        try simp only [put_y]
        try simp only [Act.put]
        try simp only [put_z]
        refine wpAnyH_take (i := 4) (v := undef) rfl (by kernel_rfl) (by kernel_rfl) (by kernel_rfl) (fun _ _ _ h => h) (Or.inr ⟨by rfl, rfl⟩) (by assumption) ?_
        try simp only [put_y]
        try simp only [Act.put]
        try simp only [put_z]
        refine wpAnyH_take (i := 5) (v := undef) rfl (by kernel_rfl) (by kernel_rfl) (by kernel_rfl) (fun _ _ _ h => h) (Or.inr ⟨by rfl, rfl⟩) (by assumption) ?_
        try simp only [put_y]
        try simp only [Act.put]
        try simp only [put_z]
        refine wpAnyH_take (i := 6) (v := undef) rfl (by kernel_rfl) (by kernel_rfl) (by kernel_rfl) (fun _ _ _ h => h) (Or.inr ⟨by rfl, rfl⟩) (by assumption) ?_
        try simp only [put_y]
        try simp only [Act.put]
        try simp only [put_z]
        refine wpAnyH_take (i := 7) (v := undef) rfl (by kernel_rfl) (by kernel_rfl) (by kernel_rfl) (fun _ _ _ h => h) (Or.inr ⟨by rfl, rfl⟩) (by assumption) ?_
        try simp only [put_y]
        try simp only [Act.put]
        try simp only [put_z]
        refine wpAnyH_take (i := 8) (v := undef) rfl (by kernel_rfl) (by kernel_rfl) (by kernel_rfl) (fun _ _ _ h => h) (Or.inr ⟨by rfl, rfl⟩) (by assumption) ?_
        try simp only [put_y]
        try simp only [Act.put]
        try simp only [put_z]
        refine wpAnyH_take (i := 9) (v := undef) rfl (by kernel_rfl) (by kernel_rfl) (by kernel_rfl) (fun _ _ _ h => h) (Or.inr ⟨by rfl, rfl⟩) (by assumption) ?_
        try simp only [put_y]
        try simp only [Act.put]
        try simp only [put_z]
        refine wpAnyH_take (i := 10) (v := undef) rfl (by kernel_rfl) (by kernel_rfl) (by kernel_rfl) (fun _ _ _ h => h) (Or.inr ⟨by rfl, rfl⟩) (by assumption) ?_
        try simp only [put_y]
        try simp only [Act.put]
        try simp only [put_z]
        refine wpAnyH_take (i := 11) (v := undef) rfl (by kernel_rfl) (by kernel_rfl) (by kernel_rfl) (fun _ _ _ h => h) (Or.inr ⟨by rfl, rfl⟩) (by assumption) ?_
        try simp only [put_y]
        try simp only [Act.put]
        try simp only [put_z]
        refine wpAnyH_take (i := 12) (v := ?_) rfl (by kernel_rfl) (by kernel_rfl) (by kernel_rfl) (fun _ _ _ h => h) (Or.inl ⟨by rfl, ?_⟩) (by assumption) ?_
        rotate_left
        · intro w hSw; (try dsimp only at hSw); go_simp; try with_reducible rfl
        try simp only [put_y]
        try simp only [Act.put]
        try simp only [put_z]
        refine wpAnyH_done (by kernel_rfl) ?_ _
        go_wp2_with (at_builtin; refine wpList_mon (m := (ye, yc)) rfl T_monos rfl HML.out rfl ho1 rfl hky h2 (by omega) ?_; intro A8 c8 w8 hm8 hu8 hat8)
        have hs1 := HUc.size
        have HB8 : Hid (∀ j, At A8 j → w.heap.size < j) := fun j hj => by
          rcases hat8 j hj with h | h
          · exact HB1.out j h
          · omega
        have HU8 : Upd Non W w8 := HUc.trans hu8 (fun j hj h => by have := HB1.out j h; omega)
        clear hu8 hat8 hs1 ho1 hky d0 d1
        go_wp2_with fail
        go_roundg (n - (k + 1))
        case measure => rw [Hg.out]; omega
        case rel => exact ⟨k + 1, _, c8, _, A8, _, rfl, by omega, rfl, rfl, by go_num, hm8, by omega, HB8, HI1, HU8⟩
      | false =>
        have C1 := Lib.hid (less_c wD (fun j => j < w.heap.size ∧ F j) (fun j => j < w.heap.size ∧ F j) LA KA lc kc ye x (h3.upd uD (fun _ _ _ f => f)) ((hx.upd hu (fun _ _ _ f => f)).upd uD (fun _ _ _ f => f)) (by rw [HML.out, Hq.out]) (by rw [HML.out]; omega))
        have C2 := Lib.hid (fun (w' : World) (u : Upd Non wr w') => less_c w' (fun j => j < w.heap.size ∧ F j) (fun j => j < w.heap.size ∧ F j) KA LA kc lc x ye ((hx.upd hu (fun _ _ _ f => f)).upd u (fun _ _ _ f => f)) (h3.upd u (fun _ _ _ f => f)) (by rw [HML.out, Hq.out]) (by rw [Hq.out]; omega))
        rw [HML.out, Hq.out] at C1 C2
        obtain ⟨l1, H1⟩ := nm (lessF ye x)
        obtain ⟨l2, H2⟩ := nm (lessF x ye)
        rw [H1.out] at C1
        rw [H2.out] at C2
        have SS : ∀ w', Upd Non wr w' → w'.cell? ⟨b, o + k * 2, none⟩ = some (.slice LA q lc) ∧ w'.cell? ⟨b, o + k * 2 + 1, none⟩ = some (.int .u64 yc) ∧ w'.cell? ⟨w.heap.size, 0, none⟩ = some (.slice KA q kc) ∧ w'.cell? ⟨w.heap.size, 1, none⟩ = some (.int .u64 d) := fun w' u =>
          ⟨cell_upd h0 u (fun f => f), cell_upd h1 u (fun f => f), cell_upd (hbr.cell 0) u (fun f => f), cell_upd (hbr.cell 1) u (fun f => f)⟩
        have HS := Lib.hid SS
        clear SS
        go_wp2_with fail
        refine wp_region_held_drew (S := fun w' => w'.cell? ⟨b, o + k * 2, none⟩ = some (.slice LA q lc) ∧ w'.cell? ⟨b, o + k * 2 + 1, none⟩ = some (.int .u64 yc) ∧ w'.cell? ⟨w.heap.size, 0, none⟩ = some (.slice KA q kc) ∧ w'.cell? ⟨w.heap.size, 1, none⟩ = some (.int .u64 d)) (by kernel_rfl) (by rw [HwD.out]; exact HS.out _ uD) (fun hHeld => ?_)
        rw [HwD.out] at hHeld ⊢
        refine wpAnyH_take (i := 0) (v := ?_) rfl (by kernel_rfl) (by kernel_rfl) (by kernel_rfl) (fun _ _ _ h => h) (Or.inl ⟨by rfl, ?_⟩) (by assumption) ?_
        rotate_left
        · intro w hSw; (try dsimp only at hSw); go_simp; try with_reducible rfl
        try simp only [put_y]
        try simp only [Act.put]
        try simp only [put_z]
        refine wpAnyH_take (i := 1) (v := ?_) rfl (by kernel_rfl) (by kernel_rfl) (by kernel_rfl) (fun _ _ _ h => h) (Or.inl ⟨by rfl, ?_⟩) (by assumption) ?_
        rotate_left
        · intro w hSw; (try dsimp only at hSw); go_simp; try with_reducible rfl
        try simp only [put_y]
        try simp only [Act.put]
        try simp only [put_z]
        refine wpAnyH_take (i := 2) (v := ?_) rfl (by kernel_rfl) (by kernel_rfl) (by kernel_rfl) (fun _ _ _ h => h) (Or.inl ⟨by rfl, ?_⟩) (by assumption) ?_
        rotate_left
        · intro w hSw; (try dsimp only at hSw); go_simp; try with_reducible rfl
        try simp only [put_y]
        try simp only [Act.put]
        try simp only [put_z]
        refine wpAnyH_take (i := 3) (v := ?_) rfl (by kernel_rfl) (by kernel_rfl) (by kernel_rfl) (fun _ _ _ h => h) (Or.inl ⟨by rfl, ?_⟩) (by assumption) ?_
        rotate_left
        · intro w hSw; (try dsimp only at hSw); go_simp; try with_reducible rfl
        try simp only [put_y]
        try simp only [Act.put]
        try simp only [put_z]
        refine wpAnyH_take (i := 4) (v := ?_) rfl (by kernel_rfl) (by kernel_rfl) (by kernel_rfl) (fun _ _ _ h => h) (Or.inl ⟨by rfl, ?_⟩) (by assumption) ?_
        rotate_left
        · intro w hSw; (try dsimp only at hSw); go_simp; try with_reducible rfl
        try simp only [put_y]
        try simp only [Act.put]
        try simp only [put_z]
        refine wpAnyH_take (i := 5) (v := ?_) rfl (by kernel_rfl) (by kernel_rfl) (by kernel_rfl) (fun _ _ _ h => h) (Or.inl ⟨by rfl, ?_⟩) (by assumption) ?_
        rotate_left
        · intro w hSw; (try dsimp only at hSw); go_simp; try with_reducible rfl
        try simp only [put_y]
        try simp only [Act.put]
        try simp only [put_z]
        refine wpAnyH_take (i := 6) (v := ?_) rfl (by kernel_rfl) (by kernel_rfl) (by kernel_rfl) (fun _ _ _ h => h) (Or.inl ⟨by rfl, ?_⟩) (by assumption) ?_
        rotate_left
        · intro w hSw; (try dsimp only at hSw); go_simp; try with_reducible rfl
        try simp only [put_y]
        try simp only [Act.put]
        try simp only [put_z]
        refine wpAnyH_take (i := 7) (v := ?_) rfl (by kernel_rfl) (by kernel_rfl) (by kernel_rfl) (fun _ _ _ h => h) (Or.inl ⟨by rfl, ?_⟩) (by assumption) ?_
        rotate_left
        · intro w hSw; (try dsimp only at hSw); go_simp; try with_reducible rfl
        try simp only [put_y]
        try simp only [Act.put]
        try simp only [put_z]
        refine wpAnyH_take (i := 8) (v := ?_) rfl (by kernel_rfl) (by kernel_rfl) (by kernel_rfl) (fun _ _ _ h => h) (Or.inl ⟨by rfl, ?_⟩) (by assumption) ?_
        rotate_left
        · intro w hSw; (try dsimp only at hSw); go_simp; try with_reducible rfl
        try simp only [put_y]
        try simp only [Act.put]
        try simp only [put_z]
        refine wpAnyH_take (i := 9) (v := ?_) rfl (by kernel_rfl) (by kernel_rfl) (by kernel_rfl) (fun _ _ _ h => h) (Or.inl ⟨by rfl, ?_⟩) (by assumption) ?_
        rotate_left
        · intro w hSw; (try dsimp only at hSw); go_simp; try with_reducible rfl
        try simp only [put_y]
        try simp only [Act.put]
        try simp only [put_z]
        refine wpAnyH_ready (rs := [10]) (by kernel_rfl) (by simp) ?_
        refine AllReadyH.cons rfl (fun K hK => ?_) AllReadyH.nil
        go_simp
        refine C1.out.mono ?_
        rintro e w1 ⟨rfl, hu1⟩
        have u1 := uD.then_non hu1
        go_wp2_with fail
        refine hK.out _ _ ?_ (fun hHeld => ?_)
        · exact HS.out _ u1
        clear hK K
        try simp only [put_y]
        try simp only [Act.put]
        try simp only [put_z]
        refine wpAnyH_take (i := 11) (v := ?_) rfl (by kernel_rfl) (by kernel_rfl) (by kernel_rfl) (fun _ _ _ h => h) (Or.inl ⟨by rfl, ?_⟩) (by assumption) ?_
        rotate_left
        · intro w hSw; (try dsimp only at hSw); go_simp; try with_reducible rfl
        try simp only [put_y]
        try simp only [Act.put]
        try simp only [put_z]
        refine wpAnyH_take (i := 12) (v := ?_) rfl (by kernel_rfl) (by kernel_rfl) (by kernel_rfl) (fun _ _ _ h => h) (Or.inl ⟨by rfl, ?_⟩) (by assumption) ?_
        rotate_left
        · intro w hSw; (try dsimp only at hSw); go_simp; try with_reducible rfl
        try simp only [put_y]
        try simp only [Act.put]
        try simp only [put_z]
        refine wpAnyH_done (by kernel_rfl) ?_ _
        cases l1 with
        | true =>
          have HI1 : Hid (AInv L (x, d) false (k + 1) (O ++ [(ye, yc)])) := HIk.out.2.1 HI.out H1.out
          have d0 := cell_upd h0 u1 (fun f => f)
          have d1 := cell_upd h1 u1 (fun f => f)
          have ho1 := ho.upd u1 (fun _ _ f => f) (fun _ _ _ f => f)
          have hky : Ints w1 (fun j => (j < w.heap.size ∧ F j) ∧ ¬ At B j) LA ye := (h3.upd u1 (fun _ _ _ f => f)).mono (fun j _ hj => ⟨hj, fun hA => by have := hj.1; have := HB.out j hA; omega⟩)
          have HUc := hu.then_non u1
          have HB1 := HB
          clear ho h3 h0 h1 hbr C1 C2
          go_wp2_with (at_builtin; refine wpList_mon (m := (ye, yc)) rfl T_monos rfl HML.out rfl ho1 rfl hky h2 (by omega) ?_; intro A8 c8 w8 hm8 hu8 hat8)
          have hs1 := HUc.size
          have HB8 : Hid (∀ j, At A8 j → w.heap.size < j) := fun j hj => by
            rcases hat8 j hj with h | h
            · exact HB1.out j h
            · omega
          have HU8 : Upd Non W w8 := HUc.trans hu8 (fun j hj h => by have := HB1.out j h; omega)
          clear hu8 hat8 hs1 ho1 hky d0 d1
          go_wp2_with fail
          go_roundg (n - (k + 1))
          case measure => rw [Hg.out]; omega
          case rel => exact ⟨k + 1, _, c8, _, A8, _, rfl, by omega, rfl, rfl, by go_num, hm8, by omega, HB8, HI1, HU8⟩
        | false =>
          go_wp2_with fail
          obtain ⟨wE, HwE⟩ := nm w1.drew
          have uE : Upd Non w1 wE := by rw [← HwE.out]; exact Upd.refl.drew
          refine wp_region_held_drew (S := fun w' => w'.cell? ⟨b, o + k * 2, none⟩ = some (.slice LA q lc) ∧ w'.cell? ⟨b, o + k * 2 + 1, none⟩ = some (.int .u64 yc) ∧ w'.cell? ⟨w.heap.size, 0, none⟩ = some (.slice KA q kc) ∧ w'.cell? ⟨w.heap.size, 1, none⟩ = some (.int .u64 d)) (by kernel_rfl) (by rw [HwE.out]; exact HS.out _ (u1.then_non uE)) (fun hHeld => ?_)
          rw [HwE.out] at hHeld ⊢
          refine wpAnyH_take (i := 0) (v := ?_) rfl (by kernel_rfl) (by kernel_rfl) (by kernel_rfl) (fun _ _ _ h => h) (Or.inl ⟨by rfl, ?_⟩) (by assumption) ?_
          rotate_left
          · intro w hSw; (try dsimp only at hSw); go_simp; try with_reducible rfl
          try simp only [put_y]
          try simp only [Act.put]
          try simp only [put_z]
          refine wpAnyH_take (i := 1) (v := ?_) rfl (by kernel_rfl) (by kernel_rfl) (by kernel_rfl) (fun _ _ _ h => h) (Or.inl ⟨by rfl, ?_⟩) (by assumption) ?_
          rotate_left
          · intro w hSw; (try dsimp only at hSw); go_simp; try with_reducible rfl
          try simp only [put_y]
          try simp only [Act.put]
          try simp only [put_z]
          refine wpAnyH_take (i := 2) (v := ?_) rfl (by kernel_rfl) (by kernel_rfl) (by kernel_rfl) (fun _ _ _ h => h) (Or.inl ⟨by rfl, ?_⟩) (by assumption) ?_
          rotate_left
          · intro w hSw; (try dsimp only at hSw); go_simp; try with_reducible rfl
          try simp only [put_y]
          try simp only [Act.put]
          try simp only [put_z]
          refine wpAnyH_take (i := 3) (v := ?_) rfl (by kernel_rfl) (by kernel_rfl) (by kernel_rfl) (fun _ _ _ h => h) (Or.inl ⟨by rfl, ?_⟩) (by assumption) ?_
          rotate_left
          · intro w hSw; (try dsimp only at hSw); go_simp; try with_reducible rfl
          try simp only [put_y]
          try simp only [Act.put]
          try simp only [put_z]
          refine wpAnyH_take (i := 4) (v := ?_) rfl (by kernel_rfl) (by kernel_rfl) (by kernel_rfl) (fun _ _ _ h => h) (Or.inl ⟨by rfl, ?_⟩) (by assumption) ?_
          rotate_left
          · intro w hSw; (try dsimp only at hSw); go_simp; try with_reducible rfl
          try simp only [put_y]
          try simp only [Act.put]
          try simp only [put_z]
          refine wpAnyH_take (i := 5) (v := ?_) rfl (by kernel_rfl) (by kernel_rfl) (by kernel_rfl) (fun _ _ _ h => h) (Or.inl ⟨by rfl, ?_⟩) (by assumption) ?_
          rotate_left
          · intro w hSw; (try dsimp only at hSw); go_simp; try with_reducible rfl
          try simp only [put_y]
          try simp only [Act.put]
          try simp only [put_z]
          refine wpAnyH_take (i := 6) (v := ?_) rfl (by kernel_rfl) (by kernel_rfl) (by kernel_rfl) (fun _ _ _ h => h) (Or.inl ⟨by rfl, ?_⟩) (by assumption) ?_
          rotate_left
          · intro w hSw; (try dsimp only at hSw); go_simp; try with_reducible rfl
          try simp only [put_y]
          try simp only [Act.put]
          try simp only [put_z]
          refine wpAnyH_ready (rs := [7]) (by kernel_rfl) (by simp) ?_
          refine AllReadyH.cons rfl (fun K hK => ?_) AllReadyH.nil
          go_simp
          refine (C2.out _ (u1.then_non uE)).mono ?_
          rintro e w2 ⟨rfl, hu2'⟩
          have u2 := (u1.then_non uE).then_non hu2'
          go_wp2_with fail
          refine hK.out _ _ ?_ (fun hHeld => ?_)
          · exact HS.out _ u2
          clear hK K
          try simp only [put_y]
          try simp only [Act.put]
          try simp only [put_z]
          refine wpAnyH_take (i := 8) (v := ?_) rfl (by kernel_rfl) (by kernel_rfl) (by kernel_rfl) (fun _ _ _ h => h) (Or.inl ⟨by rfl, ?_⟩) (by assumption) ?_
          rotate_left
          · intro w hSw; (try dsimp only at hSw); go_simp; try with_reducible rfl
          try simp only [put_y]
          try simp only [Act.put]
          try simp only [put_z]
          refine wpAnyH_done (by kernel_rfl) ?_ _
          cases l2 with
          | true =>
            have ho2 := ho.upd u2 (fun _ _ f => f) (fun _ _ _ f => f)
            obtain ⟨d0, d1, d2, d3⟩ := HS.out _ u2
            have h32 := h3.upd u2 (fun _ _ _ f => f)
            have HU2 := hu.then_non u2
            clear ho h3 h0 h1 hbr C1 C2
            by_cases hd : d = 0
            · subst hd
              have HI1 : Hid (AInv L (x, 0) true (k + 1) (O ++ [(ye, yc)])) := HIk.out.2.2.2.1 HI.out H1.out H2.out rfl
              have hky : Ints w2 (fun j => (j < w.heap.size ∧ F j) ∧ ¬ At B j) LA ye := h32.mono (fun j _ hj => ⟨hj, fun hA => by have := hj.1; have := HB.out j hA; omega⟩)
              have HUc := HU2
              have HB1 := HB
              have ho1 := ho2
              clear ho2 h32
              go_wp2_with (at_builtin; refine wpList_mon (m := (ye, yc)) rfl T_monos rfl HML.out rfl ho1 rfl hky h2 (by omega) ?_; intro A8 c8 w8 hm8 hu8 hat8)
              have hs1 := HUc.size
              have HB8 : Hid (∀ j, At A8 j → w.heap.size < j) := fun j hj => by
                rcases hat8 j hj with h | h
                · exact HB1.out j h
                · omega
              have HU8 : Upd Non W w8 := HUc.trans hu8 (fun j hj h => by have := HB1.out j h; omega)
              clear hu8 hat8 hs1 ho1 hky d0 d1
              go_wp2_with fail
              go_roundg (n - (k + 1))
              case measure => rw [Hg.out]; omega
              case rel => exact ⟨k + 1, _, c8, _, A8, _, rfl, by omega, rfl, rfl, by go_num, hm8, by omega, HB8, HI1, HU8⟩
            · have HI1 : Hid (AInv L (x, d) true (k + 1) (O ++ [(x, d)] ++ [(ye, yc)])) := HIk.out.2.2.1 HI.out H1.out H2.out hd
              have t1 : (d != 0) = true := by simpa using hd
              have hkx : Ints w2 (fun j => (j < w.heap.size ∧ F j) ∧ ¬ At B j) KA x := ((hx.upd hu (fun _ _ _ f => f)).upd u2 (fun _ _ _ f => f)).mono (fun j _ hj => ⟨hj, fun hA => by have := hj.1; have := HB.out j hA; omega⟩)
              clear hd
              go_upto_region 13 with (at_builtin; refine wpList_mon (m := (x, d)) rfl T_monos rfl Hq.out rfl ho2 rfl hkx hkc (by omega) ?_; intro A7 c7 w7 ho1 hu7 hat7)
              have hs2 := HU2.size
              have HB1 : Hid (∀ j, At A7 j → w.heap.size < j) := fun j hj => by
                rcases hat7 j hj with h | h
                · exact HB.out j h
                · omega
              have HUc : Upd Non W w7 := HU2.trans hu7 (fun j hj h => by have := HB.out j h; omega)
              have d0 := cell_upd d0 hu7 (fun hA => by have := HB.out _ hA; omega)
              have d1 := cell_upd d1 hu7 (fun hA => by have := HB.out _ hA; omega)
              have hky : Ints w7 (fun j => (j < w.heap.size ∧ F j) ∧ ¬ At A7 j) LA ye := (h32.upd hu7 (fun j _ hj hA => by have := hj.1; have := HB.out j hA; omega)).mono (fun j _ hj => ⟨hj, fun hA => by have := hj.1; have := HB1.out j hA; omega⟩)
              clear hu7 hat7 hs2 h32 d2 d3 ho2
              go_wp2_with (at_builtin; refine wpList_mon (m := (ye, yc)) rfl T_monos rfl HML.out rfl ho1 rfl hky h2 (by omega) ?_; intro A8 c8 w8 hm8 hu8 hat8)
              have hs1 := HUc.size
              have HB8 : Hid (∀ j, At A8 j → w.heap.size < j) := fun j hj => by
                rcases hat8 j hj with h | h
                · exact HB1.out j h
                · omega
              have HU8 : Upd Non W w8 := HUc.trans hu8 (fun j hj h => by have := HB1.out j h; omega)
              clear hu8 hat8 hs1 ho1 hky d0 d1
              go_wp2_with fail
              go_roundg (n - (k + 1))
              case measure => rw [Hg.out]; omega
              case rel => exact ⟨k + 1, _, c8, _, A8, _, rfl, by omega, rfl, rfl, by go_num, hm8, by omega, HB8, HI1, HU8⟩
          | false =>
            have hx1 : IntKind.u64.wrap (yc + d) = (yc + d) % 18446744073709551616 := IntKind.wrap_u64 _
            have HIJ := Lib.hid (And.intro HIk.out.2.2.2.2.1 HIk.out.2.2.2.2.2)
            obtain ⟨sm, Hsm⟩ := nm ((yc + d) % 18446744073709551616)
            rw [Hsm.out] at hx1 HIJ
            have ho2 := ho.upd u2 (fun _ _ f => f) (fun _ _ _ f => f)
            have HU2 := hu.then_non u2
            clear ho h3 h0 h1 hbr C1 C2 HIk
            go_wp2_with fail
            obtain ⟨wF, HwF⟩ := nm w2.drew
            have uF : Upd Non w2 wF := by rw [← HwF.out]; exact Upd.refl.drew
            have u3 := u2.then_non uF
            refine wp_region_held_drew (S := fun w' => w'.cell? ⟨b, o + k * 2, none⟩ = some (.slice LA q lc) ∧ w'.cell? ⟨b, o + k * 2 + 1, none⟩ = some (.int .u64 yc) ∧ w'.cell? ⟨w.heap.size, 0, none⟩ = some (.slice KA q kc) ∧ w'.cell? ⟨w.heap.size, 1, none⟩ = some (.int .u64 d)) (by kernel_rfl) (by rw [HwF.out]; exact HS.out _ u3) (fun hHeld => ?_)
            rw [HwF.out] at hHeld ⊢
            by_cases hs : sm = 0
            · subst hs
              have HI1 : Hid (AInv L (x, d) true (k + 1) O) := HIJ.out.2 HI.out H1.out H2.out rfl
              refine wpAnyH_take (i := 0) (v := ?_) rfl (by kernel_rfl) (by kernel_rfl) (by kernel_rfl) (fun _ _ _ h => h) (Or.inl ⟨by rfl, ?_⟩) (by assumption) ?_
              rotate_left
              · intro w hSw; (try dsimp only at hSw); go_simp; try with_reducible rfl
              try simp only [put_y]
              try simp only [Act.put]
              try simp only [put_z]
              refine wpAnyH_take (i := 1) (v := ?_) rfl (by kernel_rfl) (by kernel_rfl) (by kernel_rfl) (fun _ _ _ h => h) (Or.inl ⟨by rfl, ?_⟩) (by assumption) ?_
              rotate_left
              · intro w hSw; (try dsimp only at hSw); go_simp; try with_reducible rfl
              try simp only [put_y]
              try simp only [Act.put]
              try simp only [put_z]
              refine wpAnyH_take (i := 2) (v := ?_) rfl (by kernel_rfl) (by kernel_rfl) (by kernel_rfl) (fun _ _ _ h => h) (Or.inl ⟨by rfl, ?_⟩) (by assumption) ?_
              rotate_left
              · intro w hSw; (try dsimp only at hSw); go_simp; try with_reducible rfl
              try simp only [put_y]
              try simp only [Act.put]
              try simp only [put_z]
              refine wpAnyH_take (i := 3) (v := ?_) rfl (by kernel_rfl) (by kernel_rfl) (by kernel_rfl) (fun _ _ _ h => h) (Or.inl ⟨by rfl, ?_⟩) (by assumption) ?_
              rotate_left
              · intro w hSw; (try dsimp only at hSw); go_simp; try with_reducible rfl
              try simp only [put_y]
              try simp only [Act.put]
              try simp only [put_z]
              refine wpAnyH_take (i := 4) (v := ?_) rfl (by kernel_rfl) (by kernel_rfl) (by kernel_rfl) (fun _ _ _ h => h) (Or.inl ⟨by rfl, ?_⟩) (by assumption) ?_
              rotate_left
              · intro w hSw; (try dsimp only at hSw); go_simp; try with_reducible rfl
              try simp only [put_y]
              try simp only [Act.put]
              try simp only [put_z]
              refine wpAnyH_take (i := 5) (v := ?_) rfl (by kernel_rfl) (by kernel_rfl) (by kernel_rfl) (fun _ _ _ h => h) (Or.inl ⟨by rfl, ?_⟩) (by assumption) ?_
              rotate_left
              · intro w hSw; (try dsimp only at hSw); go_simp; try with_reducible rfl
              try simp only [put_y]
              try simp only [Act.put]
              try simp only [put_z]
              refine wpAnyH_take (i := 6) (v := ?_) rfl (by kernel_rfl) (by kernel_rfl) (by kernel_rfl) (fun _ _ _ h => h) (Or.inl ⟨by rfl, ?_⟩) (by assumption) ?_
              rotate_left
              · intro w hSw; (try dsimp only at hSw); go_simp; try with_reducible rfl
              try simp only [put_y]
              try simp only [Act.put]
              try simp only [put_z]
              refine wpAnyH_take (i := 7) (v := ?_) rfl (by kernel_rfl) (by kernel_rfl) (by kernel_rfl) (fun _ _ _ h => h) (Or.inl ⟨by rfl, ?_⟩) (by assumption) ?_
              rotate_left
              · intro w hSw; (try dsimp only at hSw); go_simp; try with_reducible rfl
              try simp only [put_y]
              try simp only [Act.put]
              try simp only [put_z]
              refine wpAnyH_take (i := 8) (v := ?_) rfl (by kernel_rfl) (by kernel_rfl) (by kernel_rfl) (fun _ _ _ h => h) (Or.inl ⟨by rfl, ?_⟩) (by assumption) ?_
              rotate_left
              · intro w hSw; (try dsimp only at hSw); go_simp; try with_reducible rfl
              try simp only [put_y]
              try simp only [Act.put]
              try simp only [put_z]
              refine wpAnyH_done (by kernel_rfl) ?_ _
              have ho3 := ho2.upd uF (fun _ _ f => f) (fun _ _ _ f => f)
              go_wp2_with fail
              go_roundg (n - (k + 1))
              case measure => rw [Hg.out]; omega
              case rel => exact ⟨k + 1, nb, cb, _, B, _, rfl, by omega, rfl, rfl, by go_num, ho3, by omega, HB, HI1, HU2.then_non uF⟩
            · have HI1 : Hid (AInv L (x, d) true (k + 1) (O ++ [(x, sm)])) := HIJ.out.1 HI.out H1.out H2.out hs
              have t1 : (sm != 0) = true := by simpa using hs
              clear hs
              refine wpAnyH_take (i := 0) (v := ?_) rfl (by kernel_rfl) (by kernel_rfl) (by kernel_rfl) (fun _ _ _ h => h) (Or.inl ⟨by rfl, ?_⟩) (by assumption) ?_
              rotate_left
              · intro w hSw; (try dsimp only at hSw); go_simp; try with_reducible rfl
              try simp only [put_y]
              try simp only [Act.put]
              try simp only [put_z]
              refine wpAnyH_take (i := 1) (v := ?_) rfl (by kernel_rfl) (by kernel_rfl) (by kernel_rfl) (fun _ _ _ h => h) (Or.inl ⟨by rfl, ?_⟩) (by assumption) ?_
              rotate_left
              · intro w hSw; (try dsimp only at hSw); go_simp; try with_reducible rfl
              try simp only [put_y]
              try simp only [Act.put]
              try simp only [put_z]
              refine wpAnyH_take (i := 2) (v := ?_) rfl (by kernel_rfl) (by kernel_rfl) (by kernel_rfl) (fun _ _ _ h => h) (Or.inl ⟨by rfl, ?_⟩) (by assumption) ?_
              rotate_left
              · intro w hSw; (try dsimp only at hSw); go_simp; try with_reducible rfl
              try simp only [put_y]
              try simp only [Act.put]
              try simp only [put_z]
              refine wpAnyH_take (i := 3) (v := ?_) rfl (by kernel_rfl) (by kernel_rfl) (by kernel_rfl) (fun _ _ _ h => h) (Or.inl ⟨by rfl, ?_⟩) (by assumption) ?_
              rotate_left
              · intro w hSw; (try dsimp only at hSw); go_simp; try with_reducible rfl
              try simp only [put_y]
              try simp only [Act.put]
              try simp only [put_z]
              refine wpAnyH_take (i := 4) (v := ?_) rfl (by kernel_rfl) (by kernel_rfl) (by kernel_rfl) (fun _ _ _ h => h) (Or.inl ⟨by rfl, ?_⟩) (by assumption) ?_
              rotate_left
              · intro w hSw; (try dsimp only at hSw); go_simp; try with_reducible rfl
              try simp only [put_y]
              try simp only [Act.put]
              try simp only [put_z]
              refine wpAnyH_take (i := 5) (v := ?_) rfl (by kernel_rfl) (by kernel_rfl) (by kernel_rfl) (fun _ _ _ h => h) (Or.inl ⟨by rfl, ?_⟩) (by assumption) ?_
              rotate_left
              · intro w hSw; (try dsimp only at hSw); go_simp; try with_reducible rfl
              try simp only [put_y]
              try simp only [Act.put]
              try simp only [put_z]
              refine wpAnyH_take (i := 6) (v := ?_) rfl (by kernel_rfl) (by kernel_rfl) (by kernel_rfl) (fun _ _ _ h => h) (Or.inl ⟨by rfl, ?_⟩) (by assumption) ?_
              rotate_left
              · intro w hSw; (try dsimp only at hSw); go_simp; try with_reducible rfl
              try simp only [put_y]
              try simp only [Act.put]
              try simp only [put_z]
              refine wpAnyH_take (i := 7) (v := ?_) rfl (by kernel_rfl) (by kernel_rfl) (by kernel_rfl) (fun _ _ _ h => h) (Or.inl ⟨by rfl, ?_⟩) (by assumption) ?_
              rotate_left
              · intro w hSw; (try dsimp only at hSw); go_simp; try with_reducible rfl
              try simp only [put_y]
              try simp only [Act.put]
              try simp only [put_z]
              refine wpAnyH_take (i := 8) (v := ?_) rfl (by kernel_rfl) (by kernel_rfl) (by kernel_rfl) (fun _ _ _ h => h) (Or.inl ⟨by rfl, ?_⟩) (by assumption) ?_
              rotate_left
              · intro w hSw; (try dsimp only at hSw); go_simp; try with_reducible rfl
              try simp only [put_y]
              try simp only [Act.put]
              try simp only [put_z]
              refine wpAnyH_done (by kernel_rfl) ?_ _
              go_wp2_with fail
              obtain ⟨wG, HwG⟩ := nm wF.drew
              have uG : Upd Non wF wG := by rw [← HwG.out]; exact Upd.refl.drew
              have u4 := u3.then_non uG
              have uH := uF.then_non uG
              have ho4 := ho2.upd uH (fun _ _ f => f) (fun _ _ _ f => f)
              have hkx : Ints wG (fun j => (j < w.heap.size ∧ F j) ∧ ¬ At B j) KA x := ((hx.upd hu (fun _ _ _ f => f)).upd u4 (fun _ _ _ f => f)).mono (fun j _ hj => ⟨hj, fun hA => by have := hj.1; have := HB.out j hA; omega⟩)
              have HU4 := HU2.then_non uH
              have hs4 := HU4.size
              refine wp_region_held_drew (S := fun w' => w'.cell? ⟨b, o + k * 2 + 1, none⟩ = some (.int .u64 yc) ∧ w'.cell? ⟨w.heap.size, 0, none⟩ = some (.slice KA q kc) ∧ w'.cell? ⟨w.heap.size, 1, none⟩ = some (.int .u64 d)) (by kernel_rfl) (by rw [HwG.out]; exact (HS.out _ u4).2) (fun hHeld => ?_)
              rw [HwG.out] at hHeld ⊢
              refine wpAnyH_take (i := 0) (v := ?_) rfl (by kernel_rfl) (by kernel_rfl) (by kernel_rfl) (fun _ _ _ h => h) (Or.inl ⟨by rfl, ?_⟩) (by assumption) ?_
              rotate_left
              · intro w hSw; (try dsimp only at hSw); go_simp; try with_reducible rfl
              try simp only [put_y]
              try simp only [Act.put]
              try simp only [put_z]
              refine wpAnyH_take (i := 1) (v := ?_) rfl (by kernel_rfl) (by kernel_rfl) (by kernel_rfl) (fun _ _ _ h => h) (Or.inl ⟨by rfl, ?_⟩) (by assumption) ?_
              rotate_left
              · intro w hSw; (try dsimp only at hSw); go_simp; try with_reducible rfl
              try simp only [put_y]
              try simp only [Act.put]
              try simp only [put_z]
              refine wpAnyH_take (i := 2) (v := ?_) rfl (by kernel_rfl) (by kernel_rfl) (by kernel_rfl) (fun _ _ _ h => h) (Or.inl ⟨by rfl, ?_⟩) (by assumption) ?_
              rotate_left
              · intro w hSw; (try dsimp only at hSw); go_simp; try with_reducible rfl
              try simp only [put_y]
              try simp only [Act.put]
              try simp only [put_z]
              refine wpAnyH_take (i := 3) (v := ?_) rfl (by kernel_rfl) (by kernel_rfl) (by kernel_rfl) (fun _ _ _ h => h) (Or.inl ⟨by rfl, ?_⟩) (by assumption) ?_
              rotate_left
              · intro w hSw; (try dsimp only at hSw); go_simp; try with_reducible rfl
              try simp only [put_y]
              try simp only [Act.put]
              try simp only [put_z]
              refine wpAnyH_take (i := 4) (v := ?_) rfl (by kernel_rfl) (by kernel_rfl) (by kernel_rfl) (fun _ _ _ h => h) (Or.inl ⟨by rfl, ?_⟩) (by assumption) ?_
              rotate_left
              · intro w hSw; (try dsimp only at hSw); go_simp; try with_reducible rfl
              try simp only [put_y]
              try simp only [Act.put]
              try simp only [put_z]
              refine wpAnyH_take (i := 5) (v := ?_) rfl (by kernel_rfl) (by kernel_rfl) (by kernel_rfl) (fun _ _ _ h => h) (Or.inl ⟨by rfl, ?_⟩) (by assumption) ?_
              rotate_left
              · intro w hSw; (try dsimp only at hSw); go_simp; try with_reducible rfl
              try simp only [put_y]
              try simp only [Act.put]
              try simp only [put_z]
              refine wpAnyH_take (i := 6) (v := ?_) rfl (by kernel_rfl) (by kernel_rfl) (by kernel_rfl) (fun _ _ _ h => h) (Or.inl ⟨by rfl, ?_⟩) (by assumption) ?_
              rotate_left
              · intro w hSw; (try dsimp only at hSw); go_simp; try with_reducible rfl
              try simp only [put_y]
              try simp only [Act.put]
              try simp only [put_z]
              refine wpAnyH_take (i := 7) (v := ?_) rfl (by kernel_rfl) (by kernel_rfl) (by kernel_rfl) (fun _ _ _ h => h) (Or.inl ⟨by rfl, ?_⟩) (by assumption) ?_
              rotate_left
              · intro w hSw; (try dsimp only at hSw); go_simp; try with_reducible rfl
              try simp only [put_y]
              try simp only [Act.put]
              try simp only [put_z]
              refine wpAnyH_take (i := 8) (v := ?_) rfl (by kernel_rfl) (by kernel_rfl) (by kernel_rfl) (fun _ _ _ h => h) (Or.inl ⟨by rfl, ?_⟩) (by assumption) ?_
              rotate_left
              · intro w hSw; (try dsimp only at hSw); go_simp; try with_reducible rfl
              try simp only [put_y]
              try simp only [Act.put]
              try simp only [put_z]
              refine wpAnyH_take (i := 9) (v := ?_) rfl (by kernel_rfl) (by kernel_rfl) (by kernel_rfl) (fun _ _ _ h => h) (Or.inl ⟨by rfl, ?_⟩) (by assumption) ?_
              rotate_left
              · intro w hSw; (try dsimp only at hSw); go_simp; try with_reducible rfl
              try simp only [put_y]
              try simp only [Act.put]
              try simp only [put_z]
              refine wpAnyH_take (i := 10) (v := ?_) rfl (by kernel_rfl) (by kernel_rfl) (by kernel_rfl) (fun _ _ _ h => h) (Or.inl ⟨by rfl, ?_⟩) (by assumption) ?_
              rotate_left
              · intro w hSw; (try dsimp only at hSw); go_simp; try with_reducible rfl
              try simp only [put_y]
              try simp only [Act.put]
              try simp only [put_z]
              refine wpAnyH_take (i := 11) (v := ?_) rfl (by kernel_rfl) (by kernel_rfl) (by kernel_rfl) (fun _ _ _ h => h) (Or.inl ⟨by rfl, ?_⟩) (by assumption) ?_
              rotate_left
              · intro w hSw; (try dsimp only at hSw); go_simp; try with_reducible rfl
              try simp only [put_y]
              try simp only [Act.put]
              try simp only [put_z]
              refine wpAnyH_ready (rs := [12]) (by kernel_rfl) (by simp) ?_
              refine AllReadyH.cons rfl (fun K hK => ?_) AllReadyH.nil
              go_simp
              refine hK.out _ _ ?_ (fun hHeld => ?_)
              · exact ⟨cell_upd (HS.out _ u4).2.1 (Upd.refl.alloc (S := Non) _) (fun f => f), cell_upd (HS.out _ u4).2.2.1 (Upd.refl.alloc (S := Non) _) (fun f => f), cell_upd (HS.out _ u4).2.2.2 (Upd.refl.alloc (S := Non) _) (fun f => f)⟩
              clear hK K
              try simp only [put_y]
              try simp only [Act.put]
              try simp only [put_z]
              refine wpAnyH_ready (rs := [13]) (by kernel_rfl) (by simp) ?_
              refine AllReadyH.cons rfl (fun K hK => ?_) AllReadyH.nil
              refine step_mon (m := (x, sm)) rfl T_monos rfl Hq.out rfl ho4 rfl hkx hkc (by omega) ?_
              intro A7 c7 w7 ho7 hu7 hat7
              have HB7 : Hid (∀ j, At A7 j → w.heap.size < j) := fun j hj => by
                rcases hat7 j hj with h | h
                · exact HB.out j h
                · omega
              have HU7 : Upd Non W w7 := HU4.trans hu7 (fun j hj h => by have := HB.out j h; omega)
              obtain ⟨f0, f1, f2, f3⟩ := HS.out _ u4
              refine hK.out _ _ ?_ (fun hHeld => ?_)
              · exact ⟨cell_upd f1 hu7 (fun hA => by have := HB.out _ hA; omega), cell_upd f2 hu7 (fun hA => by have := HB.out _ hA; omega), cell_upd f3 hu7 (fun hA => by have := HB.out _ hA; omega)⟩
              clear hK K
              try simp only [put_y]
              try simp only [Act.put]
              try simp only [put_z]
              refine wpAnyH_take (i := 14) (v := ?_) rfl (by kernel_rfl) (by kernel_rfl) (by kernel_rfl) (fun _ _ _ h => h) (Or.inl ⟨by rfl, ?_⟩) (by assumption) ?_
              rotate_left
              · intro w hSw; (try dsimp only at hSw); go_simp; try with_reducible rfl
              try simp only [put_y]
              try simp only [Act.put]
              try simp only [put_z]
              refine wpAnyH_done (by kernel_rfl) ?_ _
              go_wp2_with fail
              go_roundg (n - (k + 1))
              case measure => rw [Hg.out]; omega
              case rel => exact ⟨k + 1, _, c7, _, A7, _, rfl, by omega, rfl, rfl, by go_num, ho7, by omega, HB7, HI1, HU7⟩
    · obtain rfl : n = k := by omega
      have hbr := hb.upd hu (fun f => f)
      have d0 := hbr.cell 0
      have d1 := hbr.cell 1
      cases done with
      | true =>
        have HRO : Hid (O = R) := by
          have := HI.out
          rw [← Hn.out] at this
          exact this.fin.trans HR.out
        have hle := ho.le
        have hON := ho.1
        have HM := Lib.hid (ho.view (F := fun j => F j ∨ w.heap.size ≤ j) (fun j hj => .inr (by have := HB.out j hj; omega)) (fun _ _ h => .inl h.2))
        clear ho
        go_wp2_with fail
        go_ret
        rw [← HRO.out, ← hON]
        exact ⟨B, cb, rfl, HM.out, hle, hU.then_non hu⟩
      | false =>
        by_cases hd : d = 0
        · subst hd
          have HRO : Hid (O = R) := by
            have := HI.out
            rw [← Hn.out] at this
            exact (this.fin0 rfl).trans HR.out
          have hle := ho.le
          have hON := ho.1
          have HM := Lib.hid (ho.view (F := fun j => F j ∨ w.heap.size ≤ j) (fun j hj => .inr (by have := HB.out j hj; omega)) (fun _ _ h => .inl h.2))
          clear ho
          go_wp2_with fail
          go_ret
          rw [← HRO.out, ← hON]
          exact ⟨B, cb, rfl, HM.out, hle, hU.then_non hu⟩
        · have HRO : Hid (O ++ [(x, d)] = R) := by
            have := HI.out
            rw [← Hn.out] at this
            exact (this.fin1 hd).trans HR.out
          have t1 : (d != 0) = true := by simpa using hd
          have hkx : Ints wr (fun j => (j < w.heap.size ∧ F j) ∧ ¬ At B j) KA x := (hx.upd hu (fun _ _ _ f => f)).mono (fun j _ hj => ⟨hj, fun hA => by have := hj.1; have := HB.out j hA; omega⟩)
          clear hd
          go_wp2_with (at_builtin; refine wpList_mon (m := (x, d)) rfl T_monos rfl Hq.out rfl ho rfl hkx hkc (by omega) ?_; intro A7 c7 w7 ho7 hu7 hat7)
          have HU7 : Upd Non W w7 := hu.trans hu7 (fun j hj h => by have := HB.out j h; omega)
          have hle := ho7.le
          have hON := ho7.1
          have HM := Lib.hid (ho7.view (F := fun j => F j ∨ w.heap.size ≤ j) (fun j hj => .inr (by rcases hat7 j hj with h | h; (have := HB.out j h; omega); (have := hu.size; omega))) (fun _ _ h => .inl h.2))
          clear ho ho7 hu7 hat7
          go_wp2_with fail
          go_ret
          rw [← HRO.out, ← hON]
          exact ⟨A7, c7, rfl, HM.out, hle, hU.then_non HU7⟩
end Go.Proofs.Ytnefhokojbkppaa
