/-
  What keep.Numbered does: it renumbers the variables of a pattern from nothing; and the cells of a rule, stored one after the other.
-/
import Derived.Test.YtnefhokojbkppaaNumC
import Derived.Test.YtnefhokojbkppaaRulV
namespace Go.Proofs.Ytnefhokojbkppaa
open Go.RowKit

theorem NS.none_ (w : World) : NS w none 0 [] none 0 [] := ⟨Own.none_, Own.none_, fun _ h => (At.none_ h).elim⟩

theorem Numbered_c (p : Pt) (w : World) (F : Nat → Prop) (KA : Option Addr) (kc : Nat) (hp : PtK w F p KA kc) (hs : p.size ≤ 1000000) :
    Calls Try.prog 39 #[pv p KA kc] w fun e w' => ∃ (KA' : Option Addr) (kc' : Nat), e = .returned (.tuple #[pv (numF p [] []).1 KA' kc', .int .i64 (numF p [] []).2.1.length, .int .i64 (numF p [] []).2.2.length]) ∧
      PtK w' (fun k => F k ∨ w.heap.size ≤ k) (numF p [] []).1 KA' kc' ∧ Upd Non w w' := by
  have hp1 := PtK.mono (G := fun k => F k ∧ k < w.heap.size) (fun k hk h => ⟨h, hk⟩) p KA kc hp
  obtain ⟨W, HW⟩ := nm (w.alloc (.cells #[.int .i64 p.v, .int .i64 p.op, .int .i64 p.imm, .int .i64 p.iv, .slice KA p.kids.length kc] 24))
  have hU : Upd Non w W := by rw [← HW.out]; exact Upd.refl.alloc _
  have hb : Blk W w.heap.size 24 #[.int .i64 p.v, .int .i64 p.op, .int .i64 p.imm, .int .i64 p.iv, .slice KA p.kids.length kc] := by rw [← HW.out]; exact Blk.new _ _ _
  have hsW : W.heap.size = w.heap.size + 1 := by rw [← HW.out]; simp
  obtain ⟨W2, HW2⟩ := nm (W.alloc (.cells #[.int .i64 0, .int .i64 0, .int .i64 0, .int .i64 0, .slice none 0 0] 24))
  have hU2 : Upd Non W W2 := by rw [← HW2.out]; exact Upd.refl.alloc _
  have hb2 : Blk W2 (w.heap.size + 1) 24 #[.int .i64 0, .int .i64 0, .int .i64 0, .int .i64 0, .slice none 0 0] := by rw [← HW2.out, ← hsW]; exact Blk.new _ _ _
  have hsW2 : W2.heap.size = w.heap.size + 2 := by rw [← HW2.out]; simp [hsW]
  have hb := hb.upd hU2 (fun f => f)
  have hU0 := hU.then_non hU2
  have e0 := HW.out
  have e2 := HW2.out
  have hpW := PtK.upd hU0 (fun _ _ _ f => f) p KA kc hp1
  have hls := numF_len p [] []
  have C := Lib.hid (numbered_c p W2 _ KA kc none 0 none 0 [] [] hpW (fun _ _ => ⟨At.none_, At.none_⟩) (NS.none_ _) (by simpa using hs) (by simpa using hs))
  simp only [List.length_nil, Nat.zero_add] at hls
  have c0 := hb.cell 0
  have c1 := hb.cell 1
  have c2 := hb.cell 2
  have c3 := hb.cell 3
  have c4 := hb.cell 4
  have f0 := hb.frozen
  unfold pv at C ⊢
  go_enter Try.func39, Try.ntmps39
  go_wp2_with fail
  refine C.out.mono ?_
  rintro e w3 ⟨KA', kc', A', c', B', d', rfl, hp3, hn3, -, -, hu3⟩
  obtain ⟨R, HR⟩ := nm (numF p [] [])
  rw [HR.out] at hp3 hn3 hls ⊢
  unfold pv
  obtain ⟨q, Hq⟩ := nm R.1
  obtain ⟨a, Ha⟩ := nm R.2.1.length
  obtain ⟨b, Hb⟩ := nm R.2.2.length
  rw [Hq.out] at hp3 ⊢
  rw [Ha.out, Hb.out]
  have ha : a ≤ 1000000 := by rw [← Ha.out]; omega
  have hbl : b ≤ 1000000 := by rw [← Hb.out]; omega
  have hu3s := hu3.size
  have hbx := hb2.upd hu3 (fun h => by rcases h with h | h <;> exact At.none_ h)
  clear hn3 hls c0 c1 c2 c3 c4 f0 hb2 C
  go_upto_region 2 with fail
  have hal : Upd Non w3 (w3.alloc (.cells #[.int .i64 q.v, .int .i64 q.op, .int .i64 q.imm, .int .i64 q.iv, .slice KA' q.kids.length kc'] 24)) := Upd.refl.alloc _
  have b5 := Blk.new w3 24 #[.int .i64 q.v, .int .i64 q.op, .int .i64 q.imm, .int .i64 q.iv, .slice KA' q.kids.length kc']
  obtain ⟨w5, Hw5⟩ := nm (w3.alloc (.cells #[.int .i64 q.v, .int .i64 q.op, .int .i64 q.imm, .int .i64 q.iv, .slice KA' q.kids.length kc'] 24))
  rw [Hw5.out] at hal b5 ⊢
  have s4 := hal.size
  have hbx := hbx.upd hal (fun f => f)
  have c0 := b5.cell 0
  have c1 := b5.cell 1
  have c2 := b5.cell 2
  have c3 := b5.cell 3
  have c4 := b5.cell 4
  have r0 := hbx.cell 0
  have r1 := hbx.cell 1
  have r2 := hbx.cell 2
  have r3 := hbx.cell 3
  have r4 := hbx.cell 4
  have rf := hbx.frozen
  have HB := Lib.hid hbx
  have HP := Lib.hid hp3
  clear hbx b5 hp3
  go_wp2_with fail
  rw [set5_eq]
  refine bodyPost_ret (results_cell_row_tmps rfl _ _ (w.heap.size + 1) 24 _ (0, 0) _ rfl (set5_blk HB.out _ _ _ _ _) Try.underlying24 rfl (by kernel_rfl)) rfl ?_
  have u6 := set5_upd w5 (w.heap.size + 1) (.int .i64 q.v) (.int .i64 q.op) (.int .i64 q.imm) (.int .i64 q.iv) (.slice KA' q.kids.length kc')
  have s6 := u6.size
  rw [HR.out, Hq.out, Ha.out, Hb.out]
  refine ⟨KA', kc', rfl, ?_, ?_⟩
  · exact PtK.mono (fun k _ h => by rcases h with h | h; exact .inl h.1; exact .inr (by omega)) _ _ _ (PtK.upd u6 (fun k hk h e => by omega) _ _ _ (PtK.upd hal (fun _ _ _ f => f) _ _ _ (PtK.mono (G := fun k => (F k ∧ k < w.heap.size) ∨ w.heap.size + 2 ≤ k) (fun k hk h => by rcases h.1 with h | h; exact .inl h; exact .inr (by omega)) _ _ _ HP.out)))
  · have h1 := (hU0.then_non (hu3.mono (fun _ _ h => by rcases h with h | h <;> exact (At.none_ h).elim))).then_non hal
    exact h1.trans u6 (fun k hk h => by omega)
end Go.Proofs.Ytnefhokojbkppaa
