/-
  What (*egraph.Graph).insert does: it appends a node as a class of its own.
-/
import Derived.Test.YtigambcefdeaoaaInsF
import Derived.Test.YtigambcefdeaoaaMrgC
namespace Go.Proofs.Ytigambcefdeaoaa
open Go.RowKit

theorem zeroInts (w : World) : (zeroValue 22).run Try.prog w = .ok (.slice none 0 0) w := by
  have h : (Try.prog.info? 22).bind (·.zero) = some (.slice none 0 0) := by kernel_rfl
  cases hi : Try.prog.info? 22 with
  | none => rw [hi] at h; cases h
  | some i => rw [hi] at h; simp at h; simp [zeroValue, typeInfo, hi, h]
theorem Sl.new2 (w : World) (o : Obj) (t : TypeId) (cs : List Value) : Sl ((w.alloc o).alloc (.cells cs.toArray t)) (· = w.heap.size + 1) (some ⟨w.heap.size + 1, 0, none⟩) cs := by
  have := Sl.new (w.alloc o) t cs
  rwa [show (w.alloc o).heap.size = w.heap.size + 1 by simp] at this

set_option maxRecDepth 100000 in
set_option maxHeartbeats 4000000 in
theorem gInsert_c (w : World) (ρ : Nat → Role) (gb : Nat) (a : GA) (G : EG) (h : GM w ρ gb a G) (hn : G.L.length < 2000) (hnm : Named G.L.length G.c) (hcn : G.c G.L.length = G.L.length) (op imm : Int) (kids : List Int)
    (KA : Option Addr) (kc : Nat) (F : Nat → Prop) (hk : Ints w F KA kids) (hF : ∀ k, k < w.heap.size → F k → ρ k = .no) (hkl : kids.length ≤ 33) (x : Int) (hx : sortsF (G.L ++ [⟨op, imm, kids⟩]) = sortsF G.L ++ [x]) (hidx : idxF G.L (ndKey ⟨op, imm, kids⟩) = none) :
    Calls Try.prog 36 #[gp gb, .agg #[.int .i64 op, .int .i64 imm, .slice KA kids.length kc], .int .i64 x] w fun e w' => e = .returned (.int .i64 (G.L.length : Int)) ∧ ∃ ρ' a', GM w' ρ' gb a' (G.add ⟨op, imm, kids⟩) ∧ Upd (Mine ρ) w w' ∧ ∀ k, k < w.heap.size → ρ' k = ρ k := by
  have hk0 := hk.mono (G := fun k => k < w.heap.size ∧ ρ k = .no) (fun k hk hf => ⟨hk, hF k hk hf⟩)
  clear hk hF
  obtain ⟨W, HW⟩ := nm (w.alloc (.cells #[.int .i64 op, .int .i64 imm, .slice KA kids.length kc] 24))
  have hU : Upd Non w W := by rw [← HW.out]; exact Upd.refl.alloc _
  have hb : Blk W w.heap.size 24 #[.int .i64 op, .int .i64 imm, .slice KA kids.length kc] := by rw [← HW.out]; exact Blk.new _ _ _
  have hk1 := hk0.upd hU (fun _ _ _ f => f)
  have e0 := HW.out
  have hM := h.non hU
  have Hbw := Lib.hid h.bnd
  have hgw : gb < w.heap.size := h.blk.lt
  have hgr := hM.me
  clear hk0 h
  obtain ⟨lcs, hlo, hlc, hlr⟩ := hM.l
  have c0 := hM.c0
  have d0 := hb.cell 0
  have d1 := hb.cell 1
  have d2 := hb.cell 2
  have hlW : ∀ k, At a.l k → k < w.heap.size := fun k hk => Hbw.out k (by rw [hlr k hk]; simp)
  have hgl : ¬ At a.l gb := fun h => by have := hlr gb h; rw [hgr] at this; cases this
  have hbkW := hM.blk
  have hMM := Lib.hid hM
  have HX := Lib.hid hx
  have HI := Lib.hid hidx
  have HNM := Lib.hid hnm
  have HCN := Lib.hid hcn
  have hso := hM.s.1
  have hsl : (sortsF G.L).length = G.L.length := by unfold sortsF; exact sortsTo_len _ _
  rw [hsl] at hso
  have hfo := hM.fown
  obtain ⟨mS, hmSl, hmo, hmr, hmv⟩ := hM.m
  have hsr := hM.s.2
  have hfr := hM.f.2
  have HMV := Lib.hid hmv
  clear hM hx hidx hnm hcn hmv hsl
  unfold GA.cells at hbkW
  obtain ⟨n, Hn⟩ := nm G.L.length
  rw [Hn.out] at hn c0 hlo hbkW hso hfo hmo hmSl ⊢
  have sbox : ∀ w', Upd Non W w' → w'.cell? ⟨w.heap.size, 0, none⟩ = some (.int .i64 op) ∧ w'.cell? ⟨w.heap.size, 1, none⟩ = some (.int .i64 imm) ∧ w'.cell? ⟨w.heap.size, 2, none⟩ = some (.slice KA kids.length kc) := fun w' u => ⟨cell_upd d0 u (fun f => f), cell_upd d1 u (fun f => f), cell_upd d2 u (fun f => f)⟩
  have sbox8 : ∀ (w7 w' : World) (o : Obj), Upd Non W w7 → Upd (At a.l) (w7.alloc o) w' → w'.cell? ⟨w.heap.size, 0, none⟩ = some (.int .i64 op) ∧ w'.cell? ⟨w.heap.size, 1, none⟩ = some (.int .i64 imm) ∧ w'.cell? ⟨w.heap.size, 2, none⟩ = some (.slice KA kids.length kc) := fun w7 w' o u u2 => by
    obtain ⟨p0, p1, p2⟩ := sbox _ (u.alloc o)
    have hno : ¬ At a.l w.heap.size := fun h => by have := hlW _ h; omega
    exact ⟨cell_upd p0 u2 hno, cell_upd p1 u2 hno, cell_upd p2 u2 hno⟩
  have sboxF : ∀ (w0 : World) (i : Nat) (v : Value), (fun w' : World => w'.cell? ⟨w.heap.size, 0, none⟩ = some (.int .i64 op) ∧ w'.cell? ⟨w.heap.size, 1, none⟩ = some (.int .i64 imm) ∧ w'.cell? ⟨w.heap.size, 2, none⟩ = some (.slice KA kids.length kc)) w0 → (fun w' : World => w'.cell? ⟨w.heap.size, 0, none⟩ = some (.int .i64 op) ∧ w'.cell? ⟨w.heap.size, 1, none⟩ = some (.int .i64 imm) ∧ w'.cell? ⟨w.heap.size, 2, none⟩ = some (.slice KA kids.length kc)) (w0.setCell ⟨gb, i, none⟩ v) := fun w0 i v hp => by
    have hno : w.heap.size ≠ gb := by omega
    obtain ⟨p0, p1, p2⟩ := hp
    exact ⟨cell_upd p0 (updCell w0 gb i v) hno, cell_upd p1 (updCell w0 gb i v) hno, cell_upd p2 (updCell w0 gb i v) hno⟩
  have C7 := Lib.hid (cloneNode_c W.drew op imm kids KA kc (fun k => k < w.heap.size ∧ ρ k = .no) (hk1.upd (Upd.refl.drew (S := Non)) (fun _ _ _ f => f)) (by omega))
  have HSB := Lib.hid sbox
  have HSB8 := Lib.hid sbox8
  have HSBF := Lib.hid sboxF
  clear sbox sbox8 sboxF
  unfold gp
  go_enter Try.func36, Try.ntmps36
  go_wp2_with fail
  go_cut [22] (fun _ wx => ∃ (KB A2 : Option Addr) (kd c2 : Nat) (w1 w2 : World), Own w1 3 1 KB kids.length kd (icells kids) ∧ Hid (∀ k, At KB k → W.heap.size ≤ k) ∧ Upd Non W w1 ∧ Own w2 24 3 A2 (n + 1) c2 (lcs ++ [.int .i64 op, .int .i64 imm, .slice KB kids.length kd]) ∧
    Upd (At a.l) (w1.alloc (.cells #[.int .i64 op, .int .i64 imm, .slice KB kids.length kd] 24)) w2 ∧ Hid (∀ k, At A2 k → At a.l k ∨ k = (w1.alloc (.cells #[.int .i64 op, .int .i64 imm, .slice KB kids.length kd] 24)).heap.size) ∧ wx = w2.setCell ⟨gb, 0, none⟩ (.slice A2 (n + 1) c2))
  case first =>
    have q6 := HSB.out _ (Upd.refl (S := Non)).drew
    refine wp_region_held_drew (S := fun w' => w'.cell? ⟨w.heap.size, 0, none⟩ = some (.int .i64 op) ∧ w'.cell? ⟨w.heap.size, 1, none⟩ = some (.int .i64 imm) ∧ w'.cell? ⟨w.heap.size, 2, none⟩ = some (.slice KA kids.length kc)) (by kernel_rfl) q6 (fun hHeld => ?_)
    refine wpAnyH_take (i := 0) (v := ?_) rfl (by kernel_rfl) (by kernel_rfl) (by kernel_rfl) (fun _ _ _ h => h) (Or.inl ⟨by rfl, ?_⟩) (by assumption) ?_
    rotate_left
    · intro w hSw; (try dsimp only at hSw); go_simp; try with_reducible rfl
    try simp only [put_z]
    refine wpAnyH_take (i := 1) (v := ?_) rfl (by kernel_rfl) (by kernel_rfl) (by kernel_rfl) (fun _ _ _ h => h) (Or.inl ⟨by rfl, ?_⟩) (by assumption) ?_
    rotate_left
    · intro w hSw; (try dsimp only at hSw); go_simp; try with_reducible rfl
    try simp only [put_z]
    refine wpAnyH_take (i := 2) (v := ?_) rfl (by kernel_rfl) (by kernel_rfl) (by kernel_rfl) (fun _ _ _ h => h) (Or.inl ⟨by rfl, ?_⟩) (by assumption) ?_
    rotate_left
    · intro w hSw; (try dsimp only at hSw); go_simp; try with_reducible rfl
    try simp only [put_z]
    refine wpAnyH_take (i := 3) (v := ?_) rfl (by kernel_rfl) (by kernel_rfl) (by kernel_rfl) (fun _ _ _ h => h) (Or.inl ⟨by rfl, ?_⟩) (by assumption) ?_
    rotate_left
    · intro w hSw; (try dsimp only at hSw); go_simp; try with_reducible rfl
    try simp only [put_z]
    refine wpAnyH_take (i := 5) (v := ?_) rfl (by kernel_rfl) (by kernel_rfl) (by kernel_rfl) (fun _ _ _ h => h) (Or.inl ⟨by rfl, ?_⟩) (by assumption) ?_
    rotate_left
    · intro w hSw; (try dsimp only at hSw); go_simp; try with_reducible rfl
    try simp only [put_z]
    refine wpAnyH_ready (rs := [4, 6]) (by kernel_rfl) (by simp) ?_
    refine AllReadyH.cons rfl (fun K hK => ?_) (AllReadyH.cons rfl (fun K hK => ?_) AllReadyH.nil)
    · go_simp
      refine hK.out _ _ ?_ (fun hHeld => ?_)
      · exact q6
      clear hK K
      try simp only [put_z]
      refine wpAnyH_ready (rs := [6]) (by kernel_rfl) (by simp) ?_
      refine AllReadyH.cons rfl (fun K hK => ?_) AllReadyH.nil
      go_simp
      refine C7.out.mono ?_
      rintro e w1 ⟨KB, kd, rfl, hoK, hKn, hu1'⟩
      have hu1 : Upd Non W w1 := Upd.refl.drew.then_non hu1'
      have q7 := HSB.out w1 hu1
      have c07 := cell_upd c0 hu1 (fun f => f)
      have cA7 := cell_upd c07 (Upd.refl.alloc (.cells #[.int .i64 op, .int .i64 imm, .slice KB kids.length kd] 24) (S := Non)) (fun f => f)
      have qA7 := HSB.out _ (hu1.alloc (.cells #[.int .i64 op, .int .i64 imm, .slice KB kids.length kd] 24))
      have ho7 := (hlo.upd hu1 (fun _ _ f => f)).alloc (.cells #[.int .i64 op, .int .i64 imm, .slice KB kids.length kd] 24)
      go_wp2_with fail
      refine hK.out _ _ ?_ (fun hHeld => ?_)
      · exact q7
      clear hK K
      try simp only [put_z]
      refine wpAnyH_ready (rs := [7]) (by kernel_rfl) (by simp) ?_
      refine AllReadyH.cons rfl (fun K hK => ?_) AllReadyH.nil
      go_simp
      refine hK.out _ _ ?_ (fun hHeld => ?_)
      · exact qA7
      clear hK K
      try simp only [put_z]
      refine wpAnyH_ready (rs := [8]) (by kernel_rfl) (by simp) ?_
      refine AllReadyH.cons rfl (fun K hK => ?_) AllReadyH.nil
      refine step_app rfl rfl T_nodes rfl ho7 rfl (Sl.new _ _ _) rfl (by simp [Value.oneCell']) (by simp only [maxLen]; omega) (by omega) ?_
      intro A8 c8 w8 ho8 hu8 hat8
      have hb8 := (hbkW.upd hu1 (fun f => f)).alloc (.cells #[.int .i64 op, .int .i64 imm, .slice KB kids.length kd] 24) |>.upd hu8 hgl
      have c68 := hb8.cell 0
      have f68 := hb8.frozen 0
      have q8 := HSB8.out w1 w8 _ hu1 hu8
      refine hK.out _ _ ?_ (fun hHeld => ?_)
      · exact q8
      clear hK K
      try simp only [put_z]
      refine wpAnyH_take (i := 9) (v := ?_) rfl (by kernel_rfl) (by kernel_rfl) (by kernel_rfl) (fun _ _ _ h => h) (Or.inl ⟨by rfl, ?_⟩) (by assumption) ?_
      rotate_left
      · intro w hSw; (try dsimp only at hSw); go_simp; try with_reducible rfl
      try simp only [put_z]
      refine wpAnyH_take (i := 10) (v := ?_) rfl (by kernel_rfl) (by kernel_rfl) (by kernel_rfl) (fun _ _ _ h => h) (Or.inl ⟨by rfl, ?_⟩) (by assumption) ?_
      rotate_left
      · intro w hSw; (try dsimp only at hSw); go_simp; try with_reducible rfl
      try simp only [put_z]
      refine wpAnyH_ready (rs := [11]) (by kernel_rfl) (by simp) ?_
      refine AllReadyH.cons rfl (fun K hK => ?_) AllReadyH.nil
      go_simp
      refine hK.out _ _ ?_ (fun hHeld => ?_)
      · exact HSBF.out _ _ _ q8
      clear hK K
      try simp only [put_z]
      refine wpAnyH_done (by kernel_rfl) ?_ _
      go_wp2_with fail
      go_meet
      exact ⟨KB, A8, kd, c8, w1, w8, hoK, hKn, hu1, ho8, hu8, hat8, rfl⟩
    · go_simp
      refine C7.out.mono ?_
      rintro e w1 ⟨KB, kd, rfl, hoK, hKn, hu1'⟩
      have hu1 : Upd Non W w1 := Upd.refl.drew.then_non hu1'
      have q7 := HSB.out w1 hu1
      have c07 := cell_upd c0 hu1 (fun f => f)
      have cA7 := cell_upd c07 (Upd.refl.alloc (.cells #[.int .i64 op, .int .i64 imm, .slice KB kids.length kd] 24) (S := Non)) (fun f => f)
      have qA7 := HSB.out _ (hu1.alloc (.cells #[.int .i64 op, .int .i64 imm, .slice KB kids.length kd] 24))
      have ho7 := (hlo.upd hu1 (fun _ _ f => f)).alloc (.cells #[.int .i64 op, .int .i64 imm, .slice KB kids.length kd] 24)
      go_wp2_with fail
      refine hK.out _ _ ?_ (fun hHeld => ?_)
      · exact q7
      clear hK K
      try simp only [put_z]
      refine wpAnyH_ready (rs := [4, 7]) (by kernel_rfl) (by simp) ?_
      refine AllReadyH.cons rfl (fun K hK => ?_) (AllReadyH.cons rfl (fun K hK => ?_) AllReadyH.nil)
      · go_simp
        refine hK.out _ _ ?_ (fun hHeld => ?_)
        · exact q7
        clear hK K
        try simp only [put_z]
        refine wpAnyH_ready (rs := [7]) (by kernel_rfl) (by simp) ?_
        refine AllReadyH.cons rfl (fun K hK => ?_) AllReadyH.nil
        go_simp
        refine hK.out _ _ ?_ (fun hHeld => ?_)
        · exact qA7
        clear hK K
        try simp only [put_z]
        refine wpAnyH_ready (rs := [8]) (by kernel_rfl) (by simp) ?_
        refine AllReadyH.cons rfl (fun K hK => ?_) AllReadyH.nil
        refine step_app rfl rfl T_nodes rfl ho7 rfl (Sl.new _ _ _) rfl (by simp [Value.oneCell']) (by simp only [maxLen]; omega) (by omega) ?_
        intro A8 c8 w8 ho8 hu8 hat8
        have hb8 := (hbkW.upd hu1 (fun f => f)).alloc (.cells #[.int .i64 op, .int .i64 imm, .slice KB kids.length kd] 24) |>.upd hu8 hgl
        have c68 := hb8.cell 0
        have f68 := hb8.frozen 0
        have q8 := HSB8.out w1 w8 _ hu1 hu8
        refine hK.out _ _ ?_ (fun hHeld => ?_)
        · exact q8
        clear hK K
        try simp only [put_z]
        refine wpAnyH_take (i := 9) (v := ?_) rfl (by kernel_rfl) (by kernel_rfl) (by kernel_rfl) (fun _ _ _ h => h) (Or.inl ⟨by rfl, ?_⟩) (by assumption) ?_
        rotate_left
        · intro w hSw; (try dsimp only at hSw); go_simp; try with_reducible rfl
        try simp only [put_z]
        refine wpAnyH_take (i := 10) (v := ?_) rfl (by kernel_rfl) (by kernel_rfl) (by kernel_rfl) (fun _ _ _ h => h) (Or.inl ⟨by rfl, ?_⟩) (by assumption) ?_
        rotate_left
        · intro w hSw; (try dsimp only at hSw); go_simp; try with_reducible rfl
        try simp only [put_z]
        refine wpAnyH_ready (rs := [11]) (by kernel_rfl) (by simp) ?_
        refine AllReadyH.cons rfl (fun K hK => ?_) AllReadyH.nil
        go_simp
        refine hK.out _ _ ?_ (fun hHeld => ?_)
        · exact HSBF.out _ _ _ q8
        clear hK K
        try simp only [put_z]
        refine wpAnyH_done (by kernel_rfl) ?_ _
        go_wp2_with fail
        go_meet
        exact ⟨KB, A8, kd, c8, w1, w8, hoK, hKn, hu1, ho8, hu8, hat8, rfl⟩
      · go_simp
        refine hK.out _ _ ?_ (fun hHeld => ?_)
        · exact qA7
        clear hK K
        try simp only [put_z]
        refine wpAnyH_ready (rs := [4]) (by kernel_rfl) (by simp) ?_
        refine AllReadyH.cons rfl (fun K hK => ?_) AllReadyH.nil
        go_simp
        refine hK.out _ _ ?_ (fun hHeld => ?_)
        · exact qA7
        clear hK K
        try simp only [put_z]
        refine wpAnyH_ready (rs := [8]) (by kernel_rfl) (by simp) ?_
        refine AllReadyH.cons rfl (fun K hK => ?_) AllReadyH.nil
        refine step_app rfl rfl T_nodes rfl ho7 rfl (Sl.new _ _ _) rfl (by simp [Value.oneCell']) (by simp only [maxLen]; omega) (by omega) ?_
        intro A8 c8 w8 ho8 hu8 hat8
        have hb8 := (hbkW.upd hu1 (fun f => f)).alloc (.cells #[.int .i64 op, .int .i64 imm, .slice KB kids.length kd] 24) |>.upd hu8 hgl
        have c68 := hb8.cell 0
        have f68 := hb8.frozen 0
        have q8 := HSB8.out w1 w8 _ hu1 hu8
        refine hK.out _ _ ?_ (fun hHeld => ?_)
        · exact q8
        clear hK K
        try simp only [put_z]
        refine wpAnyH_take (i := 9) (v := ?_) rfl (by kernel_rfl) (by kernel_rfl) (by kernel_rfl) (fun _ _ _ h => h) (Or.inl ⟨by rfl, ?_⟩) (by assumption) ?_
        rotate_left
        · intro w hSw; (try dsimp only at hSw); go_simp; try with_reducible rfl
        try simp only [put_z]
        refine wpAnyH_take (i := 10) (v := ?_) rfl (by kernel_rfl) (by kernel_rfl) (by kernel_rfl) (fun _ _ _ h => h) (Or.inl ⟨by rfl, ?_⟩) (by assumption) ?_
        rotate_left
        · intro w hSw; (try dsimp only at hSw); go_simp; try with_reducible rfl
        try simp only [put_z]
        refine wpAnyH_ready (rs := [11]) (by kernel_rfl) (by simp) ?_
        refine AllReadyH.cons rfl (fun K hK => ?_) AllReadyH.nil
        go_simp
        refine hK.out _ _ ?_ (fun hHeld => ?_)
        · exact HSBF.out _ _ _ q8
        clear hK K
        try simp only [put_z]
        refine wpAnyH_done (by kernel_rfl) ?_ _
        go_wp2_with fail
        go_meet
        exact ⟨KB, A8, kd, c8, w1, w8, hoK, hKn, hu1, ho8, hu8, hat8, rfl⟩
  case rest =>
  obtain ⟨KB, A2, kd, c2, w1, w2, hoK, HKn, hu1, ho2, hu2, HA2, rfl⟩ := hcut
  have hsW : ∀ k, At a.s k → k < w.heap.size := fun k hk => Hbw.out k (by rw [hsr k hk]; simp)
  have hfW : ∀ k, At a.f k → k < w.heap.size := fun k hk => Hbw.out k (by rw [hfr k hk]; simp)
  have hmW : ∀ k, At a.m k → k < w.heap.size := fun k hk => Hbw.out k (by rw [hmr k hk]; simp)
  have hgs : ¬ At a.s gb := fun h => by have := hsr gb h; rw [hgr] at this; cases this
  have hgf : ¬ At a.f gb := fun h => by have := hfr gb h; rw [hgr] at this; cases this
  have hgm : ¬ At a.m gb := fun h => by have := hmr gb h; rw [hgr] at this; cases this
  have xls : ∀ k, At a.s k → ¬ At a.l k := fun k h h' => by have := hsr k h; rw [hlr k h'] at this; cases this
  have xlf : ∀ k, At a.f k → ¬ At a.l k := fun k h h' => by have := hfr k h; rw [hlr k h'] at this; cases this
  have xlm : ∀ k, At a.m k → ¬ At a.l k := fun k h h' => by have := hmr k h; rw [hlr k h'] at this; cases this
  have xsf : ∀ k, At a.f k → ¬ At a.s k := fun k h h' => by have := hfr k h; rw [hsr k h'] at this; cases this
  have xsm : ∀ k, At a.m k → ¬ At a.s k := fun k h h' => by have := hmr k h; rw [hsr k h'] at this; cases this
  have xfm : ∀ k, At a.m k → ¬ At a.f k := fun k h h' => by have := hmr k h; rw [hfr k h'] at this; cases this
  have hbk2 := ((((hbkW.upd hu1 (fun f => f)).alloc (.cells #[.int .i64 op, .int .i64 imm, .slice KB kids.length kd] 24)).upd hu2 hgl).set_ 0 (.slice A2 (n + 1) c2))
  have hbx2 := (((hb.upd hu1 (fun f => f)).alloc (.cells #[.int .i64 op, .int .i64 imm, .slice KB kids.length kd] 24)).upd hu2 (fun h => by have := hlW _ h; omega)).upd (updCell w2 gb 0 (.slice A2 (n + 1) c2)) (by omega)
  have uB : Upd (fun k => At a.l k ∨ k = gb) W (w2.setCell ⟨gb, 0, none⟩ (.slice A2 (n + 1) c2)) := ((((hu1.alloc (.cells #[.int .i64 op, .int .i64 imm, .slice KB kids.length kd] 24)).mono (T := At a.l) (fun _ _ f => f.elim)).trans hu2 (fun _ _ h => h)).mono (T := fun k => At a.l k ∨ k = gb) (fun _ _ h => .inl h)).trans (updCell w2 gb 0 _) (fun _ _ h => .inr h)
  have hs2 := hso.upd uB (fun k hk h => by rcases h with h | h; exact xls k hk h; rw [h] at hk; exact hgs hk)
  have hf2 := hfo.upd uB (fun k hk h => by rcases h with h | h; exact xlf k hk h; rw [h] at hk; exact hgf hk)
  have hm2 := hmo.upd uB (fun k hk h => by rcases h with h | h; exact xlm k hk h; rw [h] at hk; exact hgm hk)
  obtain ⟨wB, HB⟩ := nm (w2.setCell ⟨gb, 0, none⟩ (.slice A2 (n + 1) c2))
  rw [HB.out] at hbk2 hbx2 uB hs2 hf2 hm2 ⊢
  have c21 := hbk2.cell 1
  go_upto_region 4 with (at_builtin; refine wpList_app rfl rfl T_ints' rfl (hs2.alloc _) rfl (Sl.new _ _ _) rfl (by simp [Value.oneCell']) (by simp only [maxLen]; omega) (by omega) ?_; intro A3 c3 w3 ho3 hu3 hat3; have b3 := (hbk2.alloc (.cells #[.int .i64 x] 3)).upd hu3 hgs; have bx3 := (hbx2.alloc (.cells #[.int .i64 x] 3)).upd hu3 (fun h => by have := hsW _ h; omega); have f31 := b3.frozen 1; have c31 := b3.cell 1; have c32 := b3.cell 2; have uC := updCell w3 gb 1 (.slice A3 (n + 1) c3); have hf3 := ((hf2.alloc (.cells #[.int .i64 x] 3)).upd hu3 (fun k hk h => xsf k hk h)).upd (updCell w3 gb 1 (.slice A3 (n + 1) c3)) (fun k hk e => by rw [e] at hk; exact hgf hk); have hm3 := ((hm2.alloc (.cells #[.int .i64 x] 3)).upd hu3 (fun k hk h => xsm k hk h)).upd (updCell w3 gb 1 (.slice A3 (n + 1) c3)) (fun k hk e => by rw [e] at hk; exact hgm hk); have b3' := b3.set_ 1 (.slice A3 (n + 1) c3); have bx3' := bx3.upd (updCell w3 gb 1 (.slice A3 (n + 1) c3)) (by omega); obtain ⟨wC, HC⟩ := nm (w3.setCell ⟨gb, 1, none⟩ (.slice A3 (n + 1) c3)); have eC := HC.out; rw [HC.out] at hf3 hm3 b3' bx3' uC; have c32' := b3'.cell 2)
  go_upto_region 5 with (at_builtin; refine wpList_app rfl rfl T_ints' rfl (hf3.alloc _) rfl (Sl.new _ _ _) rfl (by simp [Value.oneCell']) (by simp only [maxLen]; omega) (by omega) ?_; intro A4 c4 w4 ho4 hu4 hat4; have b4 := (b3'.alloc (.cells #[.int .i64 (n : Int)] 3)).upd hu4 hgf; have bx4 := (bx3'.alloc (.cells #[.int .i64 (n : Int)] 3)).upd hu4 (fun h => by have := hfW _ h; omega); have f42 := b4.frozen 2; have c42 := b4.cell 2; have c43 := b4.cell 3; have hm4 := ((hm3.alloc (.cells #[.int .i64 (n : Int)] 3)).upd hu4 (fun k hk h => xfm k hk h)).upd (updCell w4 gb 2 (.slice A4 (n + 1) c4)) (fun k hk e => by rw [e] at hk; exact hgm hk); have b4' := b4.set_ 2 (.slice A4 (n + 1) c4); have bx4' := bx4.upd (updCell w4 gb 2 (.slice A4 (n + 1) c4)) (by omega); have uD := updCell w4 gb 2 (.slice A4 (n + 1) c4); obtain ⟨wD, HD⟩ := nm (w4.setCell ⟨gb, 2, none⟩ (.slice A4 (n + 1) c4)); have eD := HD.out; rw [HD.out] at hm4 b4' bx4' uD; have c43' := b4'.cell 3)
  go_wp2_with (at_builtin; refine wpList_app rfl rfl T_intss rfl ((hm4.alloc _).alloc _) rfl (Sl.new2 _ _ _ _) rfl (by simp [Value.oneCell']) (by simp only [maxLen]; omega) (by omega) ?_; intro A5 c5 w5 ho5 hu5 hat5; have b5 := ((b4'.alloc _).alloc _).upd hu5 hgm; have bx5 := ((bx4'.alloc _).alloc _).upd hu5 (fun h => by have := hmW _ h; omega); have f53 := b5.frozen 3; have c53 := b5.cell 3; have bx5' := bx5.upd (updCell w5 gb 3 (.slice A5 (n + 1) c5)) (by omega); have b5' := b5.set_ 3 (.slice A5 (n + 1) c5); have uE := updCell w5 gb 3 (.slice A5 (n + 1) c5); obtain ⟨wE, HE⟩ := nm (w5.setCell ⟨gb, 3, none⟩ (.slice A5 (n + 1) c5)); have eE := HE.out; rw [HE.out] at b5' bx5' uE; have y0 := bx5'.cell 0; have y1 := bx5'.cell 1)
  have uWE : Upd (fun k => ρ k = .nodes ∨ ρ k = .sorts ∨ ρ k = .find ∨ ρ k = .mem ∨ ρ k = .me) W wE :=
    (((((((uB.mono (T := fun k => ρ k = .nodes ∨ ρ k = .sorts ∨ ρ k = .find ∨ ρ k = .mem ∨ ρ k = .me) (fun k _ h => by rcases h with h | h; exact .inl (hlr k h); exact .inr (.inr (.inr (.inr (by rw [h]; exact hgr)))))).alloc _).trans hu3 (fun k _ h => .inr (.inl (hsr k h)))).trans uC (fun k _ h => .inr (.inr (.inr (.inr (by rw [h]; exact hgr)))))).alloc _ |>.trans hu4 (fun k _ h => .inr (.inr (.inl (hfr k h))))).trans uD (fun k _ h => .inr (.inr (.inr (.inr (by rw [h]; exact hgr)))))).alloc _ |>.alloc _ |>.trans hu5 (fun k _ h => .inr (.inr (.inr (.inl (hmr k h)))))).trans uE (fun k _ h => .inr (.inr (.inr (.inr (by rw [h]; exact hgr)))))
  obtain ⟨om, hom, hor, hoe⟩ := hMM.out.o
  obtain ⟨hxm, hxr⟩ := hMM.out.x
  have hnr : ∀ k, (ρ k = .byOp ∨ ρ k = .idx ∨ (∃ q, ρ k = .ops q) ∨ ρ k = .no) → ¬ (ρ k = .nodes ∨ ρ k = .sorts ∨ ρ k = .find ∨ ρ k = .mem ∨ ρ k = .me) := fun k h h' => by
    rcases h with h | h | ⟨q, h⟩ | h <;> rw [h] at h' <;> simp at h'
  have hoW : a.o < w.heap.size := Hbw.out _ (by rw [hor]; simp)
  have hxW : a.x < w.heap.size := Hbw.out _ (by rw [hxr]; simp)
  have hog : a.o ≠ gb := fun e => by rw [e, hgr] at hor; cases hor
  have hxg : a.x ≠ gb := fun e => by rw [e, hgr] at hxr; cases hxr
  have hxo : a.x ≠ a.o := fun e => by rw [e, hor] at hxr; cases hxr
  have sWE := uWE.size
  have sW := hU.size
  have hblW : w.heap.size < W.heap.size := hb.lt
  obtain ⟨OA, oc, hoval, hoown, horl⟩ : ∃ OA oc, (om (op, imm)).getD (.slice none 0 0) = .slice OA (opL G.L (op, imm)).length oc ∧ Own W 3 1 OA (opL G.L (op, imm)).length oc (icells (opL G.L (op, imm))) ∧ ∀ k, At OA k → ρ k = .ops (op, imm) := by
    rcases hoe (op, imm) with ⟨h1, h2⟩ | ⟨A, c, h1, h2⟩
    · exact ⟨none, 0, by rw [h1, h2]; rfl, by rw [h2]; exact Own.none_, fun k hk => (At.none_ hk).elim⟩
    · exact ⟨A, c, by rw [h1]; rfl, h2.1, h2.2⟩
  have hOAW : ∀ k, At OA k → k < w.heap.size := fun k hk => Hbw.out k (by rw [horl k hk]; simp)
  have hOAo : ¬ At OA a.o := fun h => by have := horl _ h; rw [hor] at this; cases this
  have hOAg : ¬ At OA gb := fun h => by have := horl _ h; rw [hgr] at this; cases this
  have hOAx : ¬ At OA a.x := fun h => by have := horl _ h; rw [hxr] at this; cases this
  have hOLn : (opL G.L (op, imm)).length ≤ 2000 := by
    unfold opL
    rw [List.length_map]
    refine Nat.le_trans (List.length_filter_le _ _) ?_
    rw [List.length_range, Hn.out]; omega
  obtain ⟨ol, HOL⟩ := nm (opL G.L (op, imm))
  rw [HOL.out] at hoval hoown hOLn
  have kcell := Blk.new wE 90 #[.int .i64 op, .int .i64 imm]
  have bF := b5'.alloc (.cells #[.int .i64 op, .int .i64 imm] 90)
  have bxF := bx5'.alloc (.cells #[.int .i64 op, .int .i64 imm] 90)
  have uWF := uWE.alloc (.cells #[.int .i64 op, .int .i64 imm] 90)
  obtain ⟨wF, HF⟩ := nm (wE.alloc (.cells #[.int .i64 op, .int .i64 imm] 90))
  rw [HF.out] at kcell bF bxF uWF ⊢
  have sWF : wE.heap.size < wF.heap.size := kcell.lt
  have p4 : wF.drew.cell? ⟨gb, 4, none⟩ = some (.map (some a.o)) := bF.cell 4
  have pk0 : wF.drew.cell? ⟨wE.heap.size, 0, none⟩ = some (.int .i64 op) := kcell.cell 0
  have pk1 : wF.drew.cell? ⟨wE.heap.size, 1, none⟩ = some (.int .i64 imm) := kcell.cell 1
  have uG := Upd.refl (w := wF) (S := Non) |>.drew.alloc (.cells #[.int .i64 (n : Int)] 3)
  have slG : Sl (wF.drew.alloc (.cells #[.int .i64 (n : Int)] 3)) (· = wF.heap.size) (some ⟨wF.heap.size, 0, none⟩) [.int .i64 (n : Int)] := Sl.new wF.drew 3 [.int .i64 (n : Int)]
  have sG : (wF.drew.alloc (.cells #[.int .i64 (n : Int)] 3)).heap.size = wF.heap.size + 1 := by simp
  obtain ⟨w7, st, hme, hent, hu7⟩ := ((hom.upd uWF (hnr _ (.inl hor))).upd uG (fun f => f)).entry (P := Try.prog) Try.underlying69 KT (z := .slice none 0 0) (zeroInts _) (op, imm)
  rw [hoval] at hme
  unfold encO at hme
  dsimp only at hme
  have ho7 := ((hoown.upd uWF (fun k hk => hnr k (.inr (.inr (.inl ⟨_, horl k hk⟩))))).upd uG (fun _ _ f => f)).upd hu7 (fun k hk e => by rw [e] at hk; exact hOAo hk)
  have sl7 := slG.upd hu7 (fun k _ hk e => by omega)
  have b7 := (bF.upd uG (fun f => f)).upd hu7 (fun e => hog e.symm)
  have bx7 := (bxF.upd uG (fun f => f)).upd hu7 (by omega)
  have k7 := (kcell.upd uG (fun f => f)).upd hu7 (by omega)
  have s7 := hu7.size
  obtain ⟨wG, HWG⟩ := nm (wF.drew.alloc (.cells #[.int .i64 (n : Int)] 3))
  have eG := HWG.out
  rw [HWG.out] at hme uG sG hu7
  clear slG
  have uG' : Upd Non wF.drew wG := by rw [← HWG.out]; exact Upd.refl.alloc _
  refine wp_region_held_drew (S := fun w' => w'.cell? ⟨gb, 4, none⟩ = some (.map (some a.o)) ∧ w'.cell? ⟨wE.heap.size, 0, none⟩ = some (.int .i64 op) ∧ w'.cell? ⟨wE.heap.size, 1, none⟩ = some (.int .i64 imm)) (by kernel_rfl) ⟨p4, pk0, pk1⟩ (fun hHeld => ?_)
  refine wpAnyH_take (i := 0) (v := ?_) rfl (by kernel_rfl) (by kernel_rfl) (by kernel_rfl) (fun _ _ _ h => h) (Or.inl ⟨by rfl, ?_⟩) (by assumption) ?_
  rotate_left
  · intro w hSw; (try dsimp only at hSw); go_simp; try with_reducible rfl
  try simp only [put_z]
  refine wpAnyH_take (i := 1) (v := ?_) rfl (by kernel_rfl) (by kernel_rfl) (by kernel_rfl) (fun _ _ _ h => h) (Or.inl ⟨by rfl, ?_⟩) (by assumption) ?_
  rotate_left
  · intro w hSw; (try dsimp only at hSw); go_simp; try with_reducible rfl
  try simp only [put_z]
  refine wpAnyH_take (i := 2) (v := ?_) rfl (by kernel_rfl) (by kernel_rfl) (by kernel_rfl) (fun _ _ _ h => h) (Or.inl ⟨by rfl, ?_⟩) (by assumption) ?_
  rotate_left
  · intro w hSw; (try dsimp only at hSw); go_simp; try with_reducible rfl
  try simp only [put_z]
  refine wpAnyH_take (i := 3) (v := ?_) rfl (by kernel_rfl) (by kernel_rfl) (by kernel_rfl) (fun _ _ _ h => h) (Or.inl ⟨by rfl, ?_⟩) (by assumption) ?_
  rotate_left
  · intro w hSw; (try dsimp only at hSw); go_simp; try with_reducible rfl
  try simp only [put_z]
  refine wpAnyH_take (i := 4) (v := ?_) rfl (by kernel_rfl) (by kernel_rfl) (by kernel_rfl) (fun _ _ _ h => h) (Or.inl ⟨by rfl, ?_⟩) (by assumption) ?_
  rotate_left
  · intro w hSw; (try dsimp only at hSw); go_simp; try with_reducible rfl
  try simp only [put_z]
  refine wpAnyH_take (i := 5) (v := ?_) rfl (by kernel_rfl) (by kernel_rfl) (by kernel_rfl) (fun _ _ _ h => h) (Or.inl ⟨by rfl, ?_⟩) (by assumption) ?_
  rotate_left
  · intro w hSw; (try dsimp only at hSw); go_simp; try with_reducible rfl
  try simp only [put_z]
  refine wpAnyH_ready (rs := [6]) (by kernel_rfl) (by simp) ?_
  refine AllReadyH.cons rfl (fun K hK => ?_) AllReadyH.nil
  go_simp
  refine hK.out _ _ ?_ (fun hHeld => ?_)
  · exact ⟨cell_upd p4 uG' (fun f => f), cell_upd pk0 uG' (fun f => f), cell_upd pk1 uG' (fun f => f)⟩
  clear hK K
  try simp only [put_z]
  refine wpAnyH_ready (rs := [7]) (by kernel_rfl) (by simp) ?_
  refine AllReadyH.cons rfl (fun K hK => ?_) AllReadyH.nil
  go_simp
  refine hK.out _ _ ?_ (fun hHeld => ?_)
  · exact ⟨b7.cell 4, k7.cell 0, k7.cell 1⟩
  clear hK K
  try simp only [put_z]
  refine wpAnyH_take (i := 8) (v := ?_) rfl (by kernel_rfl) (by kernel_rfl) (by kernel_rfl) (fun _ _ _ h => h) (Or.inl ⟨by rfl, ?_⟩) (by assumption) ?_
  rotate_left
  · intro w hSw; (try dsimp only at hSw); go_simp; try with_reducible rfl
  try simp only [put_z]
  refine wpAnyH_take (i := 10) (v := ?_) rfl (by kernel_rfl) (by kernel_rfl) (by kernel_rfl) (fun _ _ _ h => h) (Or.inl ⟨by rfl, ?_⟩) (by assumption) ?_
  rotate_left
  · intro w hSw; (try dsimp only at hSw); go_simp; try with_reducible rfl
  try simp only [put_z]
  refine wpAnyH_ready (rs := [9]) (by kernel_rfl) (by simp) ?_
  refine AllReadyH.cons rfl (fun K hK => ?_) AllReadyH.nil
  refine step_app rfl rfl T_ints' rfl ho7 rfl sl7 rfl (by simp [Value.oneCell']) (by simp only [maxLen]; omega) (by omega) ?_
  intro A9 c9 w9 ho9 hu9 hat9
  have b9 := b7.upd hu9 hOAg
  have bx9 := bx7.upd hu9 (fun h => by have := hOAW _ h; omega)
  have k9 := k7.upd hu9 (fun h => by have := hOAW _ h; omega)
  obtain ⟨w10, hes, hom10, hu10⟩ := (hent.upd hu9 hOAo).store (P := Try.prog) (t := 69) (.slice A9 (ol.length + 1) c9)
  have b10 := b9.upd hu10 (fun e => hog e.symm)
  have bx10 := bx9.upd hu10 (by omega)
  have k10 := k9.upd hu10 (by have := hu9.size; omega)
  refine hK.out _ _ ?_ (fun hHeld => ?_)
  · exact ⟨b9.cell 4, k9.cell 0, k9.cell 1⟩
  clear hK K
  try simp only [put_z]
  refine wpAnyH_ready (rs := [11]) (by kernel_rfl) (by simp) ?_
  refine AllReadyH.cons rfl (fun K hK => ?_) AllReadyH.nil
  go_simp
  refine hK.out _ _ ?_ (fun hHeld => ?_)
  · exact ⟨b10.cell 4, k10.cell 0, k10.cell 1⟩
  clear hK K
  try simp only [put_z]
  refine wpAnyH_done (by kernel_rfl) ?_ _
  have hk10 := ((((hk1.upd uWF (fun k _ hk => hnr k (.inr (.inr (.inr hk.2))))).upd uG (fun _ _ _ f => f)).upd hu7 (fun k _ hk e => by rw [e, hor] at hk; cases hk.2)).upd hu9 (fun k _ hk h => by have := horl _ h; rw [hk.2] at this; cases this)).upd hu10 (fun k _ hk e => by rw [e, hor] at hk; cases hk.2)
  have hx10 := ((((hxm.upd uWF (hnr _ (.inr (.inl hxr)))).upd uG (fun f => f)).upd hu7 (fun e => hxo e)).upd hu9 hOAx).upd hu10 (fun e => hxo e)
  have C8 := Lib.hid (nodeKey_c w10.drew op imm KA kc kids (fun k => k < w.heap.size ∧ ρ k = .no) (hk10.upd (Upd.refl.drew (S := Non)) (fun _ _ _ f => f)) (by omega))
  have z5 : w10.drew.cell? ⟨gb, 5, none⟩ = some (.map (some a.x)) := b10.cell 5
  have z0 : w10.drew.cell? ⟨w.heap.size, 0, none⟩ = some (.int .i64 op) := bx10.cell 0
  have z1 : w10.drew.cell? ⟨w.heap.size, 1, none⟩ = some (.int .i64 imm) := bx10.cell 1
  have z2 : w10.drew.cell? ⟨w.heap.size, 2, none⟩ = some (.slice KA kids.length kc) := bx10.cell 2
  go_wp2_with fail
  refine wp_region_held_drew (S := fun w' => w'.cell? ⟨gb, 5, none⟩ = some (.map (some a.x)) ∧ w'.cell? ⟨w.heap.size, 0, none⟩ = some (.int .i64 op) ∧ w'.cell? ⟨w.heap.size, 1, none⟩ = some (.int .i64 imm) ∧ w'.cell? ⟨w.heap.size, 2, none⟩ = some (.slice KA kids.length kc)) (by kernel_rfl) ⟨z5, z0, z1, z2⟩ (fun hHeld => ?_)
  refine wpAnyH_take (i := 0) (v := ?_) rfl (by kernel_rfl) (by kernel_rfl) (by kernel_rfl) (fun _ _ _ h => h) (Or.inl ⟨by rfl, ?_⟩) (by assumption) ?_
  rotate_left
  · intro w hSw; (try dsimp only at hSw); go_simp; try with_reducible rfl
  try simp only [put_z]
  refine wpAnyH_take (i := 1) (v := ?_) rfl (by kernel_rfl) (by kernel_rfl) (by kernel_rfl) (fun _ _ _ h => h) (Or.inl ⟨by rfl, ?_⟩) (by assumption) ?_
  rotate_left
  · intro w hSw; (try dsimp only at hSw); go_simp; try with_reducible rfl
  try simp only [put_z]
  refine wpAnyH_take (i := 2) (v := ?_) rfl (by kernel_rfl) (by kernel_rfl) (by kernel_rfl) (fun _ _ _ h => h) (Or.inl ⟨by rfl, ?_⟩) (by assumption) ?_
  rotate_left
  · intro w hSw; (try dsimp only at hSw); go_simp; try with_reducible rfl
  try simp only [put_z]
  refine wpAnyH_take (i := 3) (v := ?_) rfl (by kernel_rfl) (by kernel_rfl) (by kernel_rfl) (fun _ _ _ h => h) (Or.inl ⟨by rfl, ?_⟩) (by assumption) ?_
  rotate_left
  · intro w hSw; (try dsimp only at hSw); go_simp; try with_reducible rfl
  try simp only [put_z]
  refine wpAnyH_take (i := 4) (v := ?_) rfl (by kernel_rfl) (by kernel_rfl) (by kernel_rfl) (fun _ _ _ h => h) (Or.inl ⟨by rfl, ?_⟩) (by assumption) ?_
  rotate_left
  · intro w hSw; (try dsimp only at hSw); go_simp; try with_reducible rfl
  try simp only [put_z]
  refine wpAnyH_take (i := 6) (v := ?_) rfl (by kernel_rfl) (by kernel_rfl) (by kernel_rfl) (fun _ _ _ h => h) (Or.inl ⟨by rfl, ?_⟩) (by assumption) ?_
  rotate_left
  · intro w hSw; (try dsimp only at hSw); go_simp; try with_reducible rfl
  try simp only [put_z]
  refine wpAnyH_ready (rs := [5]) (by kernel_rfl) (by simp) ?_
  refine AllReadyH.cons rfl (fun K hK => ?_) AllReadyH.nil
  go_simp
  refine C8.out.mono ?_
  rintro e w11 ⟨rfl, hu11'⟩
  have hu11 : Upd Non w10 w11 := Upd.refl.drew.then_non hu11'
  have b11 := b10.upd hu11 (fun f => f)
  have bx11 := bx10.upd hu11 (fun f => f)
  obtain ⟨w12, hmu, hx12, hu12⟩ := (hx10.upd hu11 (fun f => f)).store (P := Try.prog) Try.underlying70 Try.underlying9 (keyE op imm kids) (.int .i64 (n : Int))
  have b12 := b11.upd hu12 (fun e => hxg e.symm)
  have bx12 := bx11.upd hu12 (by omega)
  go_wp2_with fail
  refine hK.out _ _ ?_ (fun hHeld => ?_)
  · exact ⟨b11.cell 5, bx11.cell 0, bx11.cell 1, bx11.cell 2⟩
  clear hK K
  try simp only [put_z]
  refine wpAnyH_ready (rs := [7]) (by kernel_rfl) (by simp) ?_
  refine AllReadyH.cons rfl (fun K hK => ?_) AllReadyH.nil
  go_simp
  refine hK.out _ _ ?_ (fun hHeld => ?_)
  · exact ⟨b12.cell 5, bx12.cell 0, bx12.cell 1, bx12.cell 2⟩
  clear hK K
  try simp only [put_z]
  refine wpAnyH_done (by kernel_rfl) ?_ _
  go_wp2_with fail
  go_ret
  refine ⟨rfl, ?_⟩
  exact insert_fin (v0 := (om (op, imm)).getD (.slice none 0 0)) hU hMM.out Hbw.out Hn.out HNM.out HCN.out HX.out HI.out hmSl HMV.out hlo hlc hlr hsr hfr hmr hoK HKn.out hu1 ho2 hu2 HA2.out (by rw [← HB.out]; exact updCell _ _ _ _) ho3 hu3 hat3 uC ho4 hu4 hat4 uD ho5 hu5 hat5 uE HF.out uG hu7 HOL.out horl ho9 hu9 hat9 hor hoe hom10 hu10 hu11 hxr hx12 hu12 b12 rfl
end Go.Proofs.Ytigambcefdeaoaa
