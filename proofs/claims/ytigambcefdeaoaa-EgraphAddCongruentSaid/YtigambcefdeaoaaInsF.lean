/-
  The graph in memory behind an insertion: put together. No condition of its own.
-/
import Derived.Test.YtigambcefdeaoaaRebP
namespace Go.Proofs.Ytigambcefdeaoaa
open Go.RowKit

theorem paintL_at {ρ : Nat → Role} {n0 : Nat} (l1 : List (Nat × Role)) {b : Nat} {r : Role} {l2 : List (Nat × Role)} {k : Nat} (h0 : n0 ≤ k) (h1 : ∀ p ∈ l1, p.1 ≤ k) (h2 : k < b) : paintL ρ n0 (l1 ++ (b, r) :: l2) k = r := by
  unfold paintL
  rw [if_neg (by omega), List.find?_append]
  have : l1.find? (fun p => decide (k < p.1)) = none := by
    rw [List.find?_eq_none]
    intro p hp
    have := h1 p hp
    simp; omega
  rw [this, List.find?_cons_of_pos (by simpa using h2)]
  rfl
theorem paintL_lt {ρ : Nat → Role} {n0 N : Nat} {l : List (Nat × Role)} {k : Nat} (hb : ∀ k, ρ k ≠ .no → k < N) (hl : ∀ p ∈ l, p.1 ≤ N) (h : paintL ρ n0 l k ≠ .no) : k < N := by
  unfold paintL at h
  split at h
  · exact hb k h
  · split at h
    · rename_i p hp
      have h1 := List.find?_some hp
      have h2 := hl p (List.mem_of_find?_eq_some hp)
      simp at h1; omega
    · exact absurd rfl h

theorem insert_fin {w W w1 w2 wB w3 wC w4 wD w5 wE wF wG w7 w9 w10 w11 w12 : World} {ρ : Nat → Role} {gb : Nat} {a : GA} {G : EG} {op imm x : Int} {kids ol : List Int} {n : Nat} {mS : List (Option Addr × Nat)} {lcs : List Value} {KB A2 A3 A4 A5 A9 OA : Option Addr} {kd c2 c3 c4 c5 c9 : Nat} {om : Int × Int → Option Value} {v0 : Value} {cs : Array Value} {o2 o3 o4 o5 o6 : Obj}
    (hU : Upd Non w W) (hM : GM W ρ gb a G) (hbw : ∀ k, ρ k ≠ .no → k < w.heap.size) (hn : G.L.length = n) (hnm : Named G.L.length G.c) (hcn : G.c G.L.length = G.L.length) (hx : sortsF (G.L ++ [⟨op, imm, kids⟩]) = sortsF G.L ++ [x]) (hidx : idxF G.L (ndKey ⟨op, imm, kids⟩) = none)
    (hmSl : mS.length = n) (hmv : ∀ i, i < G.L.length → Ints W (fun k => ρ k = .ins) (mS.getD i (none, 0)).1 (memL G.L.length G.c i) ∧ (memL G.L.length G.c i).length ≤ (mS.getD i (none, 0)).2)
    (hlo : Own W 24 3 a.l n a.lc lcs) (hlc : NodeCells W (fun k => ρ k = .kids) lcs G.L) (hlr : ∀ k, At a.l k → ρ k = .nodes) (hsr : ∀ k, At a.s k → ρ k = .sorts) (hfr : ∀ k, At a.f k → ρ k = .find) (hmr : ∀ k, At a.m k → ρ k = .mem)
    (hoK : Own w1 3 1 KB kids.length kd (icells kids)) (hKn : ∀ k, At KB k → W.heap.size ≤ k) (hu1 : Upd Non W w1)
    (ho2 : Own w2 24 3 A2 (n + 1) c2 (lcs ++ [.int .i64 op, .int .i64 imm, .slice KB kids.length kd])) (hu2 : Upd (At a.l) (w1.alloc o2) w2) (hat2 : ∀ k, At A2 k → At a.l k ∨ k = (w1.alloc o2).heap.size) (uB : Upd (· = gb) w2 wB)
    (ho3 : Own w3 3 1 A3 (n + 1) c3 (icells (sortsF G.L) ++ [.int .i64 x])) (hu3 : Upd (At a.s) (wB.alloc o3) w3) (hat3 : ∀ k, At A3 k → At a.s k ∨ k = (wB.alloc o3).heap.size) (uC : Upd (· = gb) w3 wC)
    (ho4 : Own w4 3 1 A4 (n + 1) c4 (icells (clL G.L G.c) ++ [.int .i64 (n : Int)])) (hu4 : Upd (At a.f) (wC.alloc o4) w4) (hat4 : ∀ k, At A4 k → At a.f k ∨ k = (wC.alloc o4).heap.size) (uD : Upd (· = gb) w4 wD)
    (ho5 : Own w5 22 1 A5 (n + 1) c5 (scells n G.c mS ++ [.slice (some ⟨wD.heap.size, 0, none⟩) 1 1])) (hu5 : Upd (At a.m) ((wD.alloc (.cells #[.int .i64 (n : Int)] 3)).alloc o5) w5) (hat5 : ∀ k, At A5 k → At a.m k ∨ k = ((wD.alloc (.cells #[.int .i64 (n : Int)] 3)).alloc o5).heap.size) (uE : Upd (· = gb) w5 wE)
    (hF : wE.alloc o6 = wF) (uG : Upd Non wF wG) (hu7 : Upd (· = a.o) wG w7) (hol : opL G.L (op, imm) = ol) (horl : ∀ k, At OA k → ρ k = .ops (op, imm))
    (ho9 : Own w9 3 1 A9 (ol.length + 1) c9 (icells ol ++ [.int .i64 (n : Int)])) (hu9 : Upd (At OA) w7 w9) (hat9 : ∀ k, At A9 k → At OA k ∨ k = w7.heap.size)
    (hor : ρ a.o = .byOp) (hoe : ∀ q, OpE W ρ G.L om q) (hom10 : OMap w10 a.o (fun q => if q = (op, imm) then some (.slice A9 (ol.length + 1) c9) else (fun q => if q = (op, imm) then some v0 else om q) q)) (hu10 : Upd (· = a.o) w9 w10) (hu11 : Upd Non w10 w11)
    (hxr : ρ a.x = .idx) (hx12 : SMap w12 a.x (fun s => if s = keyE op imm kids then some (.int .i64 (n : Int)) else idxV G.L s)) (hu12 : Upd (· = a.x) w11 w12)
    (hbk : Blk w12 gb 73 cs) (hcs : cs = #[.slice A2 (n + 1) c2, .slice A3 (n + 1) c3, .slice A4 (n + 1) c4, .slice A5 (n + 1) c5, .map (some a.o), .map (some a.x), .slice a.t G.T.length a.tc]) :
    ∃ ρ' a', GM w12 ρ' gb a' (G.add ⟨op, imm, kids⟩) ∧ Upd (Mine ρ) w w12 ∧ ∀ k, k < w.heap.size → ρ' k = ρ k := by
  have hgr := hM.me
  have s0 := hU.size
  have s1 := hu1.size
  have s2 : w1.heap.size + 1 ≤ w2.heap.size := by have := hu2.size; simpa using this
  have sB := uB.size
  have s3 : wB.heap.size + 1 ≤ w3.heap.size := by have := hu3.size; simpa using this
  have sC := uC.size
  have s4 : wC.heap.size + 1 ≤ w4.heap.size := by have := hu4.size; simpa using this
  have sD := uD.size
  have s5 : wD.heap.size + 1 + 1 ≤ w5.heap.size := by have := hu5.size; simpa using this
  have sE := uE.size
  have sF : wE.heap.size + 1 = wF.heap.size := by rw [← hF]; simp
  have sG := uG.size
  have s7 := hu7.size
  have s9 := hu9.size
  have s10 := hu10.size
  have s11 := hu11.size
  have s12 := hu12.size
  have oldr : ∀ (r : Role) k, r ≠ .no → ρ k = r → k < w.heap.size := fun r k hr h => hbw k (by rw [h]; exact hr)
  let R5 : Nat → Prop := fun k => k < w.heap.size ∧ (ρ k = .me ∨ ρ k = .ops (op, imm) ∨ ρ k = .byOp ∨ ρ k = .idx)
  let R4 : Nat → Prop := fun k => R5 k ∨ (k < w.heap.size ∧ ρ k = .mem)
  let R3 : Nat → Prop := fun k => R4 k ∨ (k < w.heap.size ∧ ρ k = .find)
  let R2 : Nat → Prop := fun k => R3 k ∨ (k < w.heap.size ∧ ρ k = .sorts)
  let R1 : Nat → Prop := fun k => R2 k ∨ (k < w.heap.size ∧ ρ k = .nodes)
  have gR : R5 gb := ⟨oldr .me gb (by simp) hgr, .inl hgr⟩
  have oR : R5 a.o := ⟨oldr .byOp _ (by simp) hor, .inr (.inr (.inl hor))⟩
  have xR : R5 a.x := ⟨oldr .idx _ (by simp) hxr, .inr (.inr (.inr hxr))⟩
  have opR : ∀ k, At OA k → R5 k := fun k h => ⟨oldr (.ops (op, imm)) k (by simp) (horl k h), .inr (.inl (horl k h))⟩
  have u10x : Upd (· = a.x) w10 w12 := (hu11.mono (T := (· = a.x)) (fun _ _ f => f.elim)).trans hu12 (fun _ _ h => h)
  have u9x : Upd (fun k => k = a.o ∨ k = a.x) w9 w12 := (hu10.mono (T := fun k => k = a.o ∨ k = a.x) (fun _ _ h => .inl h)).trans u10x (fun _ _ h => .inr h)
  have u9 : Upd R5 w9 w12 := u9x.mono (fun k _ h => by rcases h with h | h <;> rw [h]; exact oR; exact xR)
  have u7 : Upd R5 w7 w12 := (hu9.mono (T := R5) (fun k _ h => opR k h)).trans u9 (fun _ _ h => h)
  have uE12 : Upd R5 wE w12 := ((((Upd.refl.alloc o6 (S := R5)).mono (T := R5) (fun _ _ h => h)).trans (by rw [hF]; exact (uG.mono (T := R5) (fun _ _ f => f.elim))) (fun _ _ h => h)).trans (hu7.mono (T := R5) (fun k _ e => by rw [e]; exact oR)) (fun _ _ h => h)).trans u7 (fun _ _ h => h)
  have u5 : Upd R5 w5 w12 := (uE.mono (T := R5) (fun k _ e => by rw [e]; exact gR)).trans uE12 (fun _ _ h => h)
  have uD12 : Upd R4 wD w12 := (((Upd.refl.alloc _ (S := R4)).alloc _).trans (hu5.mono (T := R4) (fun k _ h => .inr ⟨oldr .mem k (by simp) (hmr k h), hmr k h⟩)) (fun _ _ h => h)).trans u5 (fun _ _ h => .inl h)
  have u4 : Upd R4 w4 w12 := (uD.mono (T := R4) (fun k _ e => by rw [e]; exact .inl gR)).trans uD12 (fun _ _ h => h)
  have uC12 : Upd R3 wC w12 := ((Upd.refl.alloc _ (S := R3)).trans (hu4.mono (T := R3) (fun k _ h => .inr ⟨oldr .find k (by simp) (hfr k h), hfr k h⟩)) (fun _ _ h => h)).trans u4 (fun _ _ h => .inl h)
  have u3 : Upd R3 w3 w12 := (uC.mono (T := R3) (fun k _ e => by rw [e]; exact .inl (.inl gR))).trans uC12 (fun _ _ h => h)
  have uB12 : Upd R2 wB w12 := ((Upd.refl.alloc _ (S := R2)).trans (hu3.mono (T := R2) (fun k _ h => .inr ⟨oldr .sorts k (by simp) (hsr k h), hsr k h⟩)) (fun _ _ h => h)).trans u3 (fun _ _ h => .inl h)
  have u2 : Upd R2 w2 w12 := (uB.mono (T := R2) (fun k _ e => by rw [e]; exact .inl (.inl (.inl gR)))).trans uB12 (fun _ _ h => h)
  have u1 : Upd R1 w1 w12 := ((Upd.refl.alloc _ (S := R1)).trans (hu2.mono (T := R1) (fun k _ h => .inr ⟨oldr .nodes k (by simp) (hlr k h), hlr k h⟩)) (fun _ _ h => h)).trans u2 (fun _ _ h => .inl h)
  have uW : Upd R1 W w12 := (hu1.mono (T := R1) (fun _ _ f => f.elim)).trans u1 (fun _ _ h => h)
  have lt1 : ∀ k, R1 k → k < w.heap.size := by
    rintro k ((((h | h) | h) | h) | h) <;> exact h.1
  have role1 : ∀ k, R1 k → ρ k = .me ∨ ρ k = .ops (op, imm) ∨ ρ k = .byOp ∨ ρ k = .idx ∨ ρ k = .mem ∨ ρ k = .find ∨ ρ k = .sorts ∨ ρ k = .nodes := by
    rintro k ((((h | h) | h) | h) | h)
    · rcases h.2 with h | h | h | h
      · exact .inl h
      · exact .inr (.inl h)
      · exact .inr (.inr (.inl h))
      · exact .inr (.inr (.inr (.inl h)))
    · exact .inr (.inr (.inr (.inr (.inl h.2))))
    · exact .inr (.inr (.inr (.inr (.inr (.inl h.2)))))
    · exact .inr (.inr (.inr (.inr (.inr (.inr (.inl h.2))))))
    · exact .inr (.inr (.inr (.inr (.inr (.inr (.inr h.2))))))
  have eW : ∀ k, k < W.heap.size → (paintL ρ W.heap.size [(w1.heap.size, .kids), (w2.heap.size, .nodes), (w3.heap.size, .sorts), (w4.heap.size, .find), (wD.heap.size + 1, .ins), (w5.heap.size, .mem), (w7.heap.size, .no), (w9.heap.size, .ops (op, imm))]) k = ρ k := fun k hk => paintL_old hk
  have hxo : a.x ≠ a.o := fun e => by rw [e, hor] at hxr; cases hxr
  have hL : (G.add ⟨op, imm, kids⟩).L = G.L ++ [⟨op, imm, kids⟩] := rfl
  have hLl : (G.L ++ [(⟨op, imm, kids⟩ : Nd)]).length = n + 1 := by simp [hn]
  have hc : (G.add ⟨op, imm, kids⟩).c = G.c := rfl
  have hsl : (sortsF G.L).length = n := by unfold sortsF; rw [sortsTo_len]; exact hn
  have dk : ∀ (r : Role), r ≠ .me → (∀ q, r = .ops q → q ≠ (op, imm)) → r ≠ .byOp → r ≠ .idx → r ≠ .mem → r ≠ .find → r ≠ .sorts → r ≠ .nodes → ∀ k, R1 k → ρ k ≠ r := by
    intro r a1 a2 a3 a4 a5 a6 a7 a8 k hk e
    rcases role1 k hk with h | h | h | h | h | h | h | h
    · exact a1 (by rw [← e, h])
    · exact a2 _ (by rw [← e, h]) rfl
    · exact a3 (by rw [← e, h])
    · exact a4 (by rw [← e, h])
    · exact a5 (by rw [← e, h])
    · exact a6 (by rw [← e, h])
    · exact a7 (by rw [← e, h])
    · exact a8 (by rw [← e, h])
  refine ⟨(paintL ρ W.heap.size [(w1.heap.size, .kids), (w2.heap.size, .nodes), (w3.heap.size, .sorts), (w4.heap.size, .find), (wD.heap.size + 1, .ins), (w5.heap.size, .mem), (w7.heap.size, .no), (w9.heap.size, .ops (op, imm))]), ⟨A2, c2, A3, c3, A4, c4, A5, c5, a.o, a.x, a.t, a.tc⟩, ⟨?_, ?_, ?_, ?_, ?_, ?_, ?_, ?_, ?_, ?_⟩, ?_, ?_⟩
  · refine fun k hk => paintL_lt (fun k hk => by have := hbw k hk; omega) ?_ hk
    intro p hp
    simp only [List.mem_cons, List.not_mem_nil, or_false] at hp
    rcases hp with rfl | rfl | rfl | rfl | rfl | rfl | rfl | rfl <;> dsimp only <;> omega
  · rw [eW gb (by have := oldr .me gb (by simp) hgr; omega)]; exact hgr
  · rw [hL, hLl]
    rw [hcs] at hbk
    exact hbk
  · have t1 : NodeCells w12 (fun k => (paintL ρ W.heap.size [(w1.heap.size, .kids), (w2.heap.size, .nodes), (w3.heap.size, .sorts), (w4.heap.size, .find), (wD.heap.size + 1, .ins), (w5.heap.size, .mem), (w7.heap.size, .no), (w9.heap.size, .ops (op, imm))]) k = .kids) lcs G.L :=
      hlc.mono uW (fun k _ hr hS => dk .kids (by simp) (by simp) (by simp) (by simp) (by simp) (by simp) (by simp) (by simp) k hS hr) (fun k hk hr => by rw [eW k hk]; exact hr)
    have t2 : Ints w12 (fun k => (paintL ρ W.heap.size [(w1.heap.size, .kids), (w2.heap.size, .nodes), (w3.heap.size, .sorts), (w4.heap.size, .find), (wD.heap.size + 1, .ins), (w5.heap.size, .mem), (w7.heap.size, .no), (w9.heap.size, .ops (op, imm))]) k = .kids) KB kids :=
      ((hoK.ints.mono (G := fun k => W.heap.size ≤ k ∧ k < w1.heap.size) (fun k hk hA => ⟨hKn k hA, hk⟩)).upd u1 (fun k _ hr hS => by have := lt1 k hS; omega)).mono (fun k _ hr => paintL_at [] hr.1 (by simp) hr.2)
    refine ⟨lcs ++ [.int .i64 op, .int .i64 imm, .slice KB kids.length kd], ?_, t1.snoc (nd := ⟨op, imm, kids⟩) t2 hoK.le, fun k hk => ?_⟩
    · rw [hL, hLl]
      refine ho2.upd u2 (fun k hk hS => ?_)
      have hlt := lt1 k (.inl hS)
      rcases hat2 k hk with h | h
      · have hr := hlr k h
        rcases hS with ((h | h) | h) | h
        · rcases h.2 with h | h | h | h <;> rw [hr] at h <;> cases h
        · have := h.2; rw [hr] at this; cases this
        · have := h.2; rw [hr] at this; cases this
        · have := h.2; rw [hr] at this; cases this
      · simp at h; omega
    · have hlt := ho2.lt hk
      rcases hat2 k hk with h | h
      · rw [eW k (hlo.lt h)]; exact hlr k h
      · simp at h
        exact paintL_at [(w1.heap.size, .kids)] (by omega) (by simp; omega) (by omega)
  · rw [hL, hx]
    refine ⟨?_, fun k hk => ?_⟩
    · rw [List.length_append, hsl, icells_snoc]
      refine ho3.upd u3 (fun k hk hS => ?_)
      have hlt := lt1 k (.inl (.inl hS))
      rcases hat3 k hk with h | h
      · have hr := hsr k h
        rcases hS with (h | h) | h
        · rcases h.2 with h | h | h | h <;> rw [hr] at h <;> cases h
        · have := h.2; rw [hr] at this; cases this
        · have := h.2; rw [hr] at this; cases this
      · simp at h; omega
    · have hlt := ho3.lt hk
      rcases hat3 k hk with h | h
      · rw [eW k (by have := oldr .sorts k (by simp) (hsr k h); omega)]; exact hsr k h
      · simp at h
        exact paintL_at [(w1.heap.size, .kids), (w2.heap.size, .nodes)] (by omega) (by simp; omega) (by omega)
  · rw [hL, hc, clL_snoc hcn, hn]
    refine ⟨?_, fun k hk => ?_⟩
    · rw [List.length_append, clL_len, hn, icells_snoc]
      refine ho4.upd u4 (fun k hk hS => ?_)
      have hlt := lt1 k (.inl (.inl (.inl hS)))
      rcases hat4 k hk with h | h
      · have hr := hfr k h
        rcases hS with h | h
        · rcases h.2 with h | h | h | h <;> rw [hr] at h <;> cases h
        · have := h.2; rw [hr] at this; cases this
      · simp at h; omega
    · have hlt := ho4.lt hk
      rcases hat4 k hk with h | h
      · rw [eW k (by have := oldr .find k (by simp) (hfr k h); omega)]; exact hfr k h
      · simp at h
        exact paintL_at [(w1.heap.size, .kids), (w2.heap.size, .nodes), (w3.heap.size, .sorts)] (by omega) (by simp; omega) (by omega)
  · rw [hL, hLl, hc]
    rw [hn] at hmv hnm hcn
    refine ⟨mS ++ [(some ⟨wD.heap.size, 0, none⟩, 1)], by simp [hmSl], ?_, fun k hk => ?_, fun i hi => ?_⟩
    · rw [scells_snoc hcn hnm hmSl]
      refine ho5.upd u5 (fun k hk hS => ?_)
      have hlt := lt1 k (.inl (.inl (.inl (.inl hS))))
      rcases hat5 k hk with h | h
      · have hr := hmr k h
        rcases hS.2 with h | h | h | h <;> rw [hr] at h <;> cases h
      · simp at h; omega
    · have hlt := ho5.lt hk
      rcases hat5 k hk with h | h
      · rw [eW k (by have := oldr .mem k (by simp) (hmr k h); omega)]; exact hmr k h
      · simp at h
        exact paintL_at [(w1.heap.size, .kids), (w2.heap.size, .nodes), (w3.heap.size, .sorts), (w4.heap.size, .find), (wD.heap.size + 1, .ins)] (by omega) (by simp; omega) (by omega)
    · by_cases e : i < n
      · rw [memL_snoc hcn e]
        have hg : (mS ++ [((some ⟨wD.heap.size, 0, none⟩ : Option Addr), 1)]).getD i (none, 0) = mS.getD i (none, 0) := by simp [List.getD, List.getElem?_append_left (show i < mS.length by omega)]
        rw [hg]
        exact ⟨(hmv i e).1.upd' uW (fun k _ hS => dk .ins (by simp) (by simp) (by simp) (by simp) (by simp) (by simp) (by simp) (by simp) k hS) eW, (hmv i e).2⟩
      · have e : i = n := by omega
        subst e
        rw [memL_last hcn hnm]
        have hg : (mS ++ [((some ⟨wD.heap.size, 0, none⟩ : Option Addr), 1)]).getD i (none, 0) = (some ⟨wD.heap.size, 0, none⟩, 1) := by rw [← hmSl]; simp [List.getD]
        rw [hg]
        have bi := (((Blk.new wD 3 #[.int .i64 (i : Int)]).alloc o5).upd hu5 (fun h => by have := oldr .mem _ (by simp) (hmr _ h); omega)).upd u5 (fun h => by have := lt1 _ (.inl (.inl (.inl (.inl h)))); omega)
        exact ⟨Sl.of_blk (F := fun k => (paintL ρ W.heap.size [(w1.heap.size, .kids), (w2.heap.size, .nodes), (w3.heap.size, .sorts), (w4.heap.size, .find), (wD.heap.size + 1, .ins), (w5.heap.size, .mem), (w7.heap.size, .no), (w9.heap.size, .ops (op, imm))]) k = .ins) (paintL_at [(w1.heap.size, .kids), (w2.heap.size, .nodes), (w3.heap.size, .sorts), (w4.heap.size, .find)] (by omega) (by simp; omega) (by omega)) bi 1, by simp⟩
  · refine ⟨_, hom10.upd u10x (fun e => hxo e.symm), by rw [eW a.o (by have := oldr .byOp a.o (by simp) hor; omega)]; exact hor, fun q => ?_⟩
    by_cases e : q = (op, imm)
    · subst e
      right
      have hq : opL (G.L ++ [⟨op, imm, kids⟩]) (op, imm) = ol ++ [(n : Int)] := by rw [opL_snoc, if_pos rfl, hol, hn]
      rw [hL, hq]
      refine ⟨A9, c9, by simp, ?_, fun k hk => ?_⟩
      · rw [List.length_append, icells_snoc]
        refine ho9.upd u9x (fun k hk hS => ?_)
        rcases hat9 k hk with h | h
        · have hr := horl k h
          rcases hS with h | h
          · rw [h, hor] at hr; cases hr
          · rw [h, hxr] at hr; cases hr
        · rcases hS with h' | h'
          · have := oldr .byOp _ (by simp) hor; omega
          · have := oldr .idx _ (by simp) hxr; omega
      · have hlt := ho9.lt hk
        rcases hat9 k hk with h | h
        · rw [eW k (by have := oldr (.ops (op, imm)) k (by simp) (horl k h); omega)]; exact horl k h
        · exact paintL_at [(w1.heap.size, .kids), (w2.heap.size, .nodes), (w3.heap.size, .sorts), (w4.heap.size, .find), (wD.heap.size + 1, .ins), (w5.heap.size, .mem), (w7.heap.size, .no)] (by omega) (by simp; omega) (by omega)
    · have hq : opL (G.L ++ [⟨op, imm, kids⟩]) q = opL G.L q := by rw [opL_snoc, if_neg e]
      have hm : (fun q => if q = (op, imm) then some (Value.slice A9 (ol.length + 1) c9) else (fun q => if q = (op, imm) then some v0 else om q) q) q = om q := by simp [e]
      have h1 := (hoe q).upd (S := R1) uW (fun k _ hS => dk (.ops q) (by simp) (fun q' h => by injection h with h; rw [← h]; exact e) (by simp) (by simp) (by simp) (by simp) (by simp) (by simp) k hS) eW
      unfold OpE at h1 ⊢
      rw [hL, hq, hm]
      exact h1
  · refine ⟨?_, by rw [eW a.x (by have := oldr .idx a.x (by simp) hxr; omega)]; exact hxr⟩
    rw [hL, idxV_snoc hidx, hn]
    exact hx12
  · exact hM.t.upd uW (fun k _ hS => ⟨dk .steps (by simp) (by simp) (by simp) (by simp) (by simp) (by simp) (by simp) (by simp) k hS, dk .vars (by simp) (by simp) (by simp) (by simp) (by simp) (by simp) (by simp) (by simp) k hS⟩) eW
  · refine (hU.mono (T := Mine ρ) (fun _ _ f => f.elim)).trans uW (fun k _ hS => ?_)
    rcases role1 k hS with h | h | h | h | h | h | h | h <;> (show ρ k ≠ .no) <;> rw [h] <;> simp
  · exact fun k hk => eW k (by omega)
end Go.Proofs.Ytigambcefdeaoaa
