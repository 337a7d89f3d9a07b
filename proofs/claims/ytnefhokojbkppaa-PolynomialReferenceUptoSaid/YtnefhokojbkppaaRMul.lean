/-
  What the reference's addMultiple, product and constant do, with their plain forms.
-/
import Derived.Test.YtnefhokojbkppaaRAdd
namespace Go.Proofs.Ytnefhokojbkppaa
open Go.RowKit

def u64m (x : Int) : Int := x % 18446744073709551616
def addMul (a b : List Mn) (t : Int) : List Mn := b.foldl (fun a m => addT a (m.1, u64m (m.2 * t))) a
def zadd (a b : List Int) : List Int := List.zipWith (· + ·) a b
def mulRow (out : List Mn) (s : Mn) (b : List Mn) : List Mn := b.foldl (fun out t => addT out (zadd s.1 t.1, u64m (s.2 * t.2))) out
def prodT (a b : List Mn) : List Mn := a.foldl (fun out s => mulRow out s b) []
theorem addMul_len : ∀ (b a : List Mn) (t : Int), (addMul a b t).length ≤ a.length + b.length
  | [], a, t => by simp [addMul]
  | m :: b, a, t => by
    have h1 := addMul_len b (addT a (m.1, u64m (m.2 * t))) t
    have h2 := addT_len a (m.1, u64m (m.2 * t))
    unfold addMul at h1 ⊢
    simp only [List.foldl_cons, List.length_cons]
    omega
theorem mulRow_len : ∀ (b out : List Mn) (s : Mn), (mulRow out s b).length ≤ out.length + b.length
  | [], a, t => by simp [mulRow]
  | m :: b, a, s => by
    have h1 := mulRow_len b (addT a (zadd s.1 m.1, u64m (s.2 * m.2))) s
    have h2 := addT_len a (zadd s.1 m.1, u64m (s.2 * m.2))
    unfold mulRow at h1 ⊢
    simp only [List.foldl_cons, List.length_cons]
    omega
/-- All exponents have length q. -/
def LenQ (q : Nat) (L : List Mn) : Prop := ∀ m ∈ L, m.1.length = q
theorem LenQ.addT {q : Nat} : ∀ {L : List Mn} {m : Mn}, LenQ q L → m.1.length = q → LenQ q (addT L m)
  | [], m, _, h => by
    unfold Go.Proofs.Ytnefhokojbkppaa.addT
    split
    · intro x hx; simp at hx
    · intro x hx; simp at hx; subst hx; exact h
  | a :: L, m, hL, h => by
    have ih := LenQ.addT (L := L) (m := m) (fun x hx => hL x (by simp [hx])) h
    have h1 := hL a (by simp)
    have h2 : LenQ q L := fun x hx => hL x (by simp [hx])
    unfold Go.Proofs.Ytnefhokojbkppaa.addT
    split
    · intro x hx
      rcases List.mem_cons.1 hx with rfl | hx
      · exact h1
      · exact ih x hx
    · split
      · split
        · exact hL
        · intro x hx
          rcases List.mem_cons.1 hx with rfl | hx
          · exact h
          · exact hL x hx
      · split
        · exact h2
        · intro x hx
          rcases List.mem_cons.1 hx with rfl | hx
          · exact h
          · exact h2 x hx
theorem LenQ.nil {q : Nat} : LenQ q [] := fun x hx => by simp at hx
theorem addMul_snoc (a b : List Mn) (m : Mn) (t : Int) : addMul a (b ++ [m]) t = addT (addMul a b t) (m.1, u64m (m.2 * t)) := by simp [addMul]
theorem mulRow_snoc (a b : List Mn) (s m : Mn) : mulRow a s (b ++ [m]) = addT (mulRow a s b) (zadd s.1 m.1, u64m (s.2 * m.2)) := by simp [mulRow]
theorem prodT_snoc (a b : List Mn) (m : Mn) : prodT (a ++ [m]) b = mulRow (prodT a b) m b := by simp [prodT]
theorem take_snoc {α : Type} {L : List α} {k : Nat} (h : k < L.length) : L.take (k + 1) = L.take k ++ [L[k]] := by
  rw [List.take_add_one, List.getElem?_eq_getElem h]; rfl
theorem LenQ.addMul {q : Nat} {t : Int} : ∀ {b a : List Mn}, LenQ q a → LenQ q b → LenQ q (addMul a b t)
  | [], _, h, _ => h
  | m :: b, a, h, h2 => LenQ.addMul (b := b) (a := Go.Proofs.Ytnefhokojbkppaa.addT a (m.1, u64m (m.2 * t))) (h.addT (h2 m (by simp))) (fun x hx => h2 x (by simp [hx]))
theorem zadd_len {q : Nat} {a b : List Int} (ha : a.length = q) (hb : b.length = q) : (zadd a b).length = q := by simp [zadd, ha, hb]
theorem LenQ.mulRow {q : Nat} {s : Mn} (hs : s.1.length = q) : ∀ {b a : List Mn}, LenQ q a → LenQ q b → LenQ q (mulRow a s b)
  | [], _, h, _ => h
  | m :: b, a, h, h2 => LenQ.mulRow hs (b := b) (a := Go.Proofs.Ytnefhokojbkppaa.addT a (zadd s.1 m.1, u64m (s.2 * m.2))) (h.addT (zadd_len hs (h2 m (by simp)))) (fun x hx => h2 x (by simp [hx]))
theorem LenQ.prodT_ {q : Nat} {b : List Mn} (hb : LenQ q b) : ∀ (a out : List Mn), LenQ q a → LenQ q out → LenQ q (a.foldl (fun out s => Go.Proofs.Ytnefhokojbkppaa.mulRow out s b) out)
  | [], _, _, h => h
  | s :: a, out, h, h2 => LenQ.prodT_ hb a (Go.Proofs.Ytnefhokojbkppaa.mulRow out s b) (fun x hx => h x (by simp [hx])) (h2.mulRow (h s (by simp)) hb)
theorem LenQ.prodT {q : Nat} {a b : List Mn} (ha : LenQ q a) (hb : LenQ q b) : LenQ q (prodT a b) := LenQ.prodT_ hb a [] ha LenQ.nil
theorem prodT_len_ (b : List Mn) : ∀ (a out : List Mn), (a.foldl (fun out s => mulRow out s b) out).length ≤ out.length + a.length * b.length
  | [], _ => by simp
  | s :: a, out => by
    have h1 := prodT_len_ b a (mulRow out s b)
    have h2 := mulRow_len b out s
    simp only [List.foldl_cons, List.length_cons, Nat.succ_mul]
    omega
theorem prodT_len (a b : List Mn) : (prodT a b).length ≤ a.length * b.length := by have := prodT_len_ b a []; simpa [prodT] using this

set_option maxRecDepth 100000 in
set_option maxHeartbeats 4000000 in
theorem addMultiple_c (w : World) (F : Nat → Prop) (A B : Option Addr) (c d : Nat) (La Lb : List Mn) (t : Int) (q : Nat) (hA : MonsV w F A La) (hB : MonsV w F B Lb) (ha : LenQ q La) (hb : LenQ q Lb) (hca : La.length ≤ c) (hn : La.length + Lb.length ≤ 10000000000) (hq : q ≤ 10000000000) :
    Calls Try.prog 55 #[.slice A La.length c, .slice B Lb.length d, .int .u64 t] w fun e w' => ∃ R c', e = .returned (.slice R (addMul La Lb t).length c') ∧ MonsV w' (fun j => F j ∨ w.heap.size ≤ j) R (addMul La Lb t) ∧ (addMul La Lb t).length ≤ c' ∧ Upd Non w w' := by
  obtain ⟨n, Hn⟩ := nm Lb.length
  have HB := Lib.hid hb
  have hA := hA.mono (G := fun j => F j ∨ w.heap.size ≤ j) (fun _ _ h => .inl h)
  rw [Hn.out] at hn ⊢
  obtain ⟨na, Hna⟩ := nm La.length
  rw [Hna.out] at hca hn ⊢
  have HA0 := Lib.hid (And.intro hA ha)
  clear hb hA ha
  go_enter Try.func55, Try.ntmps55
  go_wp2_with fail
  go_loopg [0, 7] n (fun g a i wr => ∃ (k nb cb : Nat) (R : Option Addr) (O : List Mn), Hid (g = n - k) ∧ k ≤ n ∧ a = .slice R nb cb ∧ i = .int .i64 k ∧ Hid (O = addMul La (Lb.take k) t ∧ O.length = nb ∧ MonsV wr (fun j => F j ∨ w.heap.size ≤ j) R O ∧ LenQ q O) ∧ nb ≤ cb ∧ nb ≤ na + k ∧ Upd Non w wr)
  case atStart => exact ⟨0, na, c, A, La, rfl, by omega, rfl, rfl, ⟨rfl, Hna.out, HA0.out.1, HA0.out.2⟩, by omega, by omega, Upd.refl⟩
  case round =>
    obtain ⟨k, nb, cb, R, O, Hg, hk, rfl, rfl, HO, hnb, hnk, hu⟩ := hrel
    by_cases hlt : k < n
    · have hkL : k < Lb.length := by rw [Hn.out]; exact hlt
      obtain ⟨b, o, rfl, hF, hbw, LA, lc, h0, h1, h2, h3⟩ := (hB.upd hu (fun _ _ _ f => f)).at_ hkL
      have hml := HB.out Lb[k] (List.getElem_mem hkL)
      have HS : Hid (addMul La (Lb.take (k + 1)) t = addT (addMul La (Lb.take k) t) (Lb[k].1, u64m (Lb[k].2 * t))) := by
        show _ = _
        rw [take_snoc hkL, addMul_snoc]
      generalize Lb[k] = y at *
      obtain ⟨ye, yc⟩ := y
      dsimp only at h0 h1 h2 h3 hml
      have HML := Lib.hid hml
      rw [hml] at h0 h2
      clear hml
      obtain ⟨wD, HwD⟩ := nm wr.drew
      have uD : Upd Non wr wD := by rw [← HwD.out]; exact Upd.refl.drew
      have C1 := Lib.hid (addTerm_c wD (fun j => F j ∨ w.heap.size ≤ j) R LA cb lc O ye (u64m (yc * t)) (HO.out.2.2.1.upd uD (fun _ _ _ f => f)) ((h3.mono (G := fun j => F j ∨ w.heap.size ≤ j) (fun _ _ h => .inl h)).upd uD (fun _ _ _ f => f)) (fun m hm => by rw [HO.out.2.2.2 m hm, HML.out]) (by rw [HML.out]; exact h2) (by rw [HO.out.2.1]; omega) (by rw [HML.out]; omega))
      rw [HML.out, HO.out.2.1] at C1
      have hx1 : IntKind.u64.wrap (yc * t) = u64m (yc * t) := IntKind.wrap_u64 _
      have HLT := addT_len O (ye, u64m (yc * t))
      rw [HO.out.2.1] at HLT
      obtain ⟨v, Hv⟩ := nm (u64m (yc * t))
      rw [Hv.out] at hx1 C1 HLT HS
      have HO2 : Hid (addMul La (Lb.take (k + 1)) t = addT O (ye, v)) := by show _ = _; rw [HS.out, ← HO.out.1]
      have HQ2 : Hid (LenQ q (addT O (ye, v))) := LenQ.addT HO.out.2.2.2 HML.out
      obtain ⟨O2, HO3⟩ := nm (addT O (ye, v))
      rw [HO3.out] at C1 HLT HO2 HQ2
      clear HS HO h2 h3
      go_wp2_with fail
      refine wp_region_held_drew (S := fun w' => w'.cell? ⟨b, o + k * 2, none⟩ = some (.slice LA q lc) ∧ w'.cell? ⟨b, o + k * 2 + 1, none⟩ = some (.int .u64 yc)) (by kernel_rfl) (by rw [HwD.out]; exact ⟨cell_upd h0 uD (fun f => f), cell_upd h1 uD (fun f => f)⟩) (fun hHeld => ?_)
      rw [HwD.out] at hHeld ⊢
      refine wpAnyH_take (i := 0) (v := ?_) rfl (by kernel_rfl) (by kernel_rfl) (by kernel_rfl) (fun _ _ _ h => h) (Or.inl ⟨by rfl, ?_⟩) (by assumption) ?_
      rotate_left
      · intro w hSw; (try dsimp only at hSw); go_simp; try with_reducible rfl
      try simp only [put_y]
      try simp only [Act.put]
      try simp only [put_z]
      refine wpAnyH_take (i := 1) (v := ?_) rfl (by kernel_rfl) (by kernel_rfl) (by kernel_rfl) (fun _ _ _ h => h) (Or.inl ⟨by rfl, ?_⟩) (by assumption) ?_
      rotate_left
      · intro w hSw; (try dsimp only at hSw); go_simp; try with_reducible rfl
      try simp only [put_y]
      try simp only [Act.put]
      try simp only [put_z]
      refine wpAnyH_take (i := 2) (v := ?_) rfl (by kernel_rfl) (by kernel_rfl) (by kernel_rfl) (fun _ _ _ h => h) (Or.inl ⟨by rfl, ?_⟩) (by assumption) ?_
      rotate_left
      · intro w hSw; (try dsimp only at hSw); go_simp; try with_reducible rfl
      try simp only [put_y]
      try simp only [Act.put]
      try simp only [put_z]
      refine wpAnyH_take (i := 3) (v := ?_) rfl (by kernel_rfl) (by kernel_rfl) (by kernel_rfl) (fun _ _ _ h => h) (Or.inl ⟨by rfl, ?_⟩) (by assumption) ?_
      rotate_left
      · intro w hSw; (try dsimp only at hSw); go_simp; try with_reducible rfl
      try simp only [put_y]
      try simp only [Act.put]
      try simp only [put_z]
      refine wpAnyH_take (i := 4) (v := ?_) rfl (by kernel_rfl) (by kernel_rfl) (by kernel_rfl) (fun _ _ _ h => h) (Or.inl ⟨by rfl, ?_⟩) (by assumption) ?_
      rotate_left
      · intro w hSw; (try dsimp only at hSw); go_simp; try with_reducible rfl
      try simp only [put_y]
      try simp only [Act.put]
      try simp only [put_z]
      refine wpAnyH_take (i := 5) (v := ?_) rfl (by kernel_rfl) (by kernel_rfl) (by kernel_rfl) (fun _ _ _ h => h) (Or.inl ⟨by rfl, ?_⟩) (by assumption) ?_
      rotate_left
      · intro w hSw; (try dsimp only at hSw); go_simp; try with_reducible rfl
      try simp only [put_y]
      try simp only [Act.put]
      try simp only [put_z]
      refine wpAnyH_take (i := 6) (v := ?_) rfl (by kernel_rfl) (by kernel_rfl) (by kernel_rfl) (fun _ _ _ h => h) (Or.inl ⟨by rfl, ?_⟩) (by assumption) ?_
      rotate_left
      · intro w hSw; (try dsimp only at hSw); go_simp; try with_reducible rfl
      try simp only [put_y]
      try simp only [Act.put]
      try simp only [put_z]
      refine wpAnyH_take (i := 7) (v := ?_) rfl (by kernel_rfl) (by kernel_rfl) (by kernel_rfl) (fun _ _ _ h => h) (Or.inl ⟨by rfl, ?_⟩) (by assumption) ?_
      rotate_left
      · intro w hSw; (try dsimp only at hSw); go_simp; try with_reducible rfl
      try simp only [put_y]
      try simp only [Act.put]
      try simp only [put_z]
      refine wpAnyH_take (i := 8) (v := ?_) rfl (by kernel_rfl) (by kernel_rfl) (by kernel_rfl) (fun _ _ _ h => h) (Or.inl ⟨by rfl, ?_⟩) (by assumption) ?_
      rotate_left
      · intro w hSw; (try dsimp only at hSw); go_simp; try with_reducible rfl
      try simp only [put_y]
      try simp only [Act.put]
      try simp only [put_z]
      refine wpAnyH_take (i := 9) (v := ?_) rfl (by kernel_rfl) (by kernel_rfl) (by kernel_rfl) (fun _ _ _ h => h) (Or.inl ⟨by rfl, ?_⟩) (by assumption) ?_
      rotate_left
      · intro w hSw; (try dsimp only at hSw); go_simp; try with_reducible rfl
      try simp only [put_y]
      try simp only [Act.put]
      try simp only [put_z]
      refine wpAnyH_take (i := 10) (v := ?_) rfl (by kernel_rfl) (by kernel_rfl) (by kernel_rfl) (fun _ _ _ h => h) (Or.inl ⟨by rfl, ?_⟩) (by assumption) ?_
      rotate_left
      · intro w hSw; (try dsimp only at hSw); go_simp; try with_reducible rfl
      try simp only [put_y]
      try simp only [Act.put]
      try simp only [put_z]
      refine wpAnyH_take (i := 11) (v := ?_) rfl (by kernel_rfl) (by kernel_rfl) (by kernel_rfl) (fun _ _ _ h => h) (Or.inl ⟨by rfl, ?_⟩) (by assumption) ?_
      rotate_left
      · intro w hSw; (try dsimp only at hSw); go_simp; try with_reducible rfl
      try simp only [put_y]
      try simp only [Act.put]
      try simp only [put_z]
      refine wpAnyH_take (i := 12) (v := ?_) rfl (by kernel_rfl) (by kernel_rfl) (by kernel_rfl) (fun _ _ _ h => h) (Or.inl ⟨by rfl, ?_⟩) (by assumption) ?_
      rotate_left
      · intro w hSw; (try dsimp only at hSw); go_simp; try with_reducible rfl
      try simp only [put_y]
      try simp only [Act.put]
      try simp only [put_z]
      refine wpAnyH_take (i := 13) (v := ?_) rfl (by kernel_rfl) (by kernel_rfl) (by kernel_rfl) (fun _ _ _ h => h) (Or.inl ⟨by rfl, ?_⟩) (by assumption) ?_
      rotate_left
      · intro w hSw; (try dsimp only at hSw); go_simp; try with_reducible rfl
      try simp only [put_y]
      try simp only [Act.put]
      try simp only [put_z]
      refine wpAnyH_ready (rs := [14]) (by kernel_rfl) (by simp) ?_
      refine AllReadyH.cons rfl (fun K hK => ?_) AllReadyH.nil
      go_simp
      refine C1.out.mono ?_
      rintro e w1 ⟨R1, c1, rfl, hm1, hc1, hu1⟩
      obtain ⟨n1, Hn1⟩ := nm O2.length
      rw [Hn1.out] at hc1 HLT ⊢
      have u1 := uD.then_non hu1
      go_wp2_with fail
      refine hK.out _ _ ?_ (fun hHeld => ?_)
      · exact ⟨cell_upd h0 u1 (fun f => f), cell_upd h1 u1 (fun f => f)⟩
      clear hK K
      try simp only [put_y]
      try simp only [Act.put]
      try simp only [put_z]
      refine wpAnyH_take (i := 15) (v := ?_) rfl (by kernel_rfl) (by kernel_rfl) (by kernel_rfl) (fun _ _ _ h => h) (Or.inl ⟨by rfl, ?_⟩) (by assumption) ?_
      rotate_left
      · intro w hSw; (try dsimp only at hSw); go_simp; try with_reducible rfl
      try simp only [put_y]
      try simp only [Act.put]
      try simp only [put_z]
      refine wpAnyH_done (by kernel_rfl) ?_ _
      have HM1 : Hid (O2 = addMul La (Lb.take (k + 1)) t ∧ O2.length = n1 ∧ MonsV w1 (fun j => F j ∨ w.heap.size ≤ j) R1 O2 ∧ LenQ q O2) := ⟨HO2.out.symm, Hn1.out, hm1.mono (fun j _ h => h.elim id (fun h => .inr (by have := hu.size; have := uD.size; omega))), HQ2.out⟩
      clear hm1 HO2 HQ2
      go_wp2_with fail
      go_roundg (n - (k + 1))
      case measure => rw [Hg.out]; omega
      case rel => exact ⟨k + 1, n1, c1, R1, O2, rfl, by omega, rfl, by go_num, HM1, hc1, by omega, hu.then_non u1⟩
    · obtain rfl : n = k := by omega
      have HT : Hid (Lb.take n = Lb) := List.take_of_length_le (by rw [Hn.out]; exact Nat.le_refl _)
      rw [HT.out] at HO
      go_wp2_with fail
      go_ret
      obtain ⟨e1, e2, e3, _⟩ := HO.out
      rw [← e1, e2]
      exact ⟨R, cb, rfl, e3, hnb, hu⟩
end Go.Proofs.Ytnefhokojbkppaa
