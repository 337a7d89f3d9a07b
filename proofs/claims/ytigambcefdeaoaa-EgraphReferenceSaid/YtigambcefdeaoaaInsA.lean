/-
  The graph in memory behind an insertion: put together. No condition of its own.
  What (*egraph.Graph).insert does: it appends a node as a class of its own.
-/
import Derived.Test.YtigambcefdeaoaaRebP
import Derived.Test.YtigambcefdeaoaaMrgA
namespace Go.Proofs.Ytigambcefdeaoaa
open Go.RowKit

theorem paintL_at {ρ : Nat → Role} {n0 : Nat} (l1 : List (Nat × Role)) {b : Nat} {r : Role} {l2 : List (Nat × Role)} {k : Nat} (h0 : n0 ≤ k) (h1 : ∀ p ∈ l1, p.1 ≤ k) (h2 : k < b) : paintL ρ n0 (l1 ++ (b, r) :: l2) k = r := by
  unfold paintL
  rw [if_neg (by omega), List.find?_append]
  have : l1.find? (fun p => decide (k < p.1)) = none := by
    rw [List.find?_eq_none]
    intro p hp
    have := h1 p hp
    simp; omega
  rw [this, List.find?_cons_of_pos (by simpa using h2)]
  rfl
theorem paintL_lt {ρ : Nat → Role} {n0 N : Nat} {l : List (Nat × Role)} {k : Nat} (hb : ∀ k, ρ k ≠ .no → k < N) (hl : ∀ p ∈ l, p.1 ≤ N) (h : paintL ρ n0 l k ≠ .no) : k < N := by
  unfold paintL at h
  split at h
  · exact hb k h
  · split at h
    · rename_i p hp
      have h1 := List.find?_some hp
      have h2 := hl p (List.mem_of_find?_eq_some hp)
      simp at h1; omega
    · exact absurd rfl h

theorem insert_fin {w W w1 w2 wB w3 wC w4 wD w5 wE wF wG w7 w9 w10 w11 w12 : World} {ρ : Nat → Role} {gb : Nat} {a : GA} {G : EG} {op imm x : Int} {kids ol : List Int} {n : Nat} {mS : List (Option Addr × Nat)} {lcs : List Value} {KB A2 A3 A4 A5 A9 OA : Option Addr} {kd c2 c3 c4 c5 c9 : Nat} {om : Int × Int → Option Value} {v0 : Value} {cs : Array Value} {o2 o3 o4 o5 o6 : Obj}
    (hU : Upd Non w W) (hM : GM W ρ gb a G) (hbw : ∀ k, ρ k ≠ .no → k < w.heap.size) (hn : G.L.length = n) (hnm : Named G.L.length G.c) (hcn : G.c G.L.length = G.L.length) (hx : sortsF (G.L ++ [⟨op, imm, kids⟩]) = sortsF G.L ++ [x]) (hidx : idxF G.L (ndKey ⟨op, imm, kids⟩) = none)
    (hmSl : mS.length = n) (hmv : ∀ i, i < G.L.length → Ints W (fun k => ρ k = .ins) (mS.getD i (none, 0)).1 (memL G.L.length G.c i) ∧ (memL G.L.length G.c i).length ≤ (mS.getD i (none, 0)).2)
    (hlo : Own W 24 3 a.l n a.lc lcs) (hlc : NodeCells W (fun k => ρ k = .kids) lcs G.L) (hlr : ∀ k, At a.l k → ρ k = .nodes) (hsr : ∀ k, At a.s k → ρ k = .sorts) (hfr : ∀ k, At a.f k → ρ k = .find) (hmr : ∀ k, At a.m k → ρ k = .mem)
    (hoK : Own w1 3 1 KB kids.length kd (icells kids)) (hKn : ∀ k, At KB k → W.heap.size ≤ k) (hu1 : Upd Non W w1)
    (ho2 : Own w2 24 3 A2 (n + 1) c2 (lcs ++ [.int .i64 op, .int .i64 imm, .slice KB kids.length kd])) (hu2 : Upd (At a.l) (w1.alloc o2) w2) (hat2 : ∀ k, At A2 k → At a.l k ∨ k = (w1.alloc o2).heap.size) (uB : Upd (· = gb) w2 wB)
    (ho3 : Own w3 3 1 A3 (n + 1) c3 (icells (sortsF G.L) ++ [.int .i64 x])) (hu3 : Upd (At a.s) (wB.alloc o3) w3) (hat3 : ∀ k, At A3 k → At a.s k ∨ k = (wB.alloc o3).heap.size) (uC : Upd (· = gb) w3 wC)
    (ho4 : Own w4 3 1 A4 (n + 1) c4 (icells (clL G.L G.c) ++ [.int .i64 (n : Int)])) (hu4 : Upd (At a.f) (wC.alloc o4) w4) (hat4 : ∀ k, At A4 k → At a.f k ∨ k = (wC.alloc o4).heap.size) (uD : Upd (· = gb) w4 wD)
    (ho5 : Own w5 22 1 A5 (n + 1) c5 (scells n G.c mS ++ [.slice (some ⟨wD.heap.size, 0, none⟩) 1 1])) (hu5 : Upd (At a.m) ((wD.alloc (.cells #[.int .i64 (n : Int)] 3)).alloc o5) w5) (hat5 : ∀ k, At A5 k → At a.m k ∨ k = ((wD.alloc (.cells #[.int .i64 (n : Int)] 3)).alloc o5).heap.size) (uE : Upd (· = gb) w5 wE)
    (hF : wE.alloc o6 = wF) (uG : Upd Non wF wG) (hu7 : Upd (· = a.o) wG w7) (hol : opL G.L (op, imm) = ol) (horl : ∀ k, At OA k → ρ k = .ops (op, imm))
    (ho9 : Own w9 3 1 A9 (ol.length + 1) c9 (icells ol ++ [.int .i64 (n : Int)])) (hu9 : Upd (At OA) w7 w9) (hat9 : ∀ k, At A9 k → At OA k ∨ k = w7.heap.size)
    (hor : ρ a.o = .byOp) (hoe : ∀ q, OpE W ρ G.L om q) (hom10 : OMap w10 a.o (fun q => if q = (op, imm) then some (.slice A9 (ol.length + 1) c9) else (fun q => if q = (op, imm) then some v0 else om q) q)) (hu10 : Upd (· = a.o) w9 w10) (hu11 : Upd Non w10 w11)
    (hxr : ρ a.x = .idx) (hx12 : SMap w12 a.x (fun s => if s = keyE op imm kids then some (.int .i64 (n : Int)) else idxV G.L s)) (hu12 : Upd (· = a.x) w11 w12)
    (hbk : Blk w12 gb 73 cs) (hcs : cs = #[.slice A2 (n + 1) c2, .slice A3 (n + 1) c3, .slice A4 (n + 1) c4, .slice A5 (n + 1) c5, .map (some a.o), .map (some a.x), .slice a.t G.T.length a.tc]) :
    ∃ ρ' a', GM w12 ρ' gb a' (G.add ⟨op, imm, kids⟩) ∧ Upd (Mine ρ) w w12 ∧ ∀ k, k < w.heap.size → ρ' k = ρ k := by
  have hgr := hM.me
  have s0 := hU.size
  have s1 := hu1.size
  have s2 : w1.heap.size + 1 ≤ w2.heap.size := by have := hu2.size; simpa using this
  have sB := uB.size
  have s3 : wB.heap.size + 1 ≤ w3.heap.size := by have := hu3.size; simpa using this
  have sC := uC.size
  have s4 : wC.heap.size + 1 ≤ w4.heap.size := by have := hu4.size; simpa using this
  have sD := uD.size
  have s5 : wD.heap.size + 1 + 1 ≤ w5.heap.size := by have := hu5.size; simpa using this
  have sE := uE.size
  have sF : wE.heap.size + 1 = wF.heap.size := by rw [← hF]; simp
  have sG := uG.size
  have s7 := hu7.size
  have s9 := hu9.size
  have s10 := hu10.size
  have s11 := hu11.size
  have s12 := hu12.size
  have oldr : ∀ (r : Role) k, r ≠ .no → ρ k = r → k < w.heap.size := fun r k hr h => hbw k (by rw [h]; exact hr)
  let R5 : Nat → Prop := fun k => k < w.heap.size ∧ (ρ k = .me ∨ ρ k = .ops (op, imm) ∨ ρ k = .byOp ∨ ρ k = .idx)
  let R4 : Nat → Prop := fun k => R5 k ∨ (k < w.heap.size ∧ ρ k = .mem)
  let R3 : Nat → Prop := fun k => R4 k ∨ (k < w.heap.size ∧ ρ k = .find)
  let R2 : Nat → Prop := fun k => R3 k ∨ (k < w.heap.size ∧ ρ k = .sorts)
  let R1 : Nat → Prop := fun k => R2 k ∨ (k < w.heap.size ∧ ρ k = .nodes)
  have gR : R5 gb := ⟨oldr .me gb (by simp) hgr, .inl hgr⟩
  have oR : R5 a.o := ⟨oldr .byOp _ (by simp) hor, .inr (.inr (.inl hor))⟩
  have xR : R5 a.x := ⟨oldr .idx _ (by simp) hxr, .inr (.inr (.inr hxr))⟩
  have opR : ∀ k, At OA k → R5 k := fun k h => ⟨oldr (.ops (op, imm)) k (by simp) (horl k h), .inr (.inl (horl k h))⟩
  have u10x : Upd (· = a.x) w10 w12 := (hu11.mono (T := (· = a.x)) (fun _ _ f => f.elim)).trans hu12 (fun _ _ h => h)
  have u9x : Upd (fun k => k = a.o ∨ k = a.x) w9 w12 := (hu10.mono (T := fun k => k = a.o ∨ k = a.x) (fun _ _ h => .inl h)).trans u10x (fun _ _ h => .inr h)
  have u9 : Upd R5 w9 w12 := u9x.mono (fun k _ h => by rcases h with h | h <;> rw [h]; exact oR; exact xR)
  have u7 : Upd R5 w7 w12 := (hu9.mono (T := R5) (fun k _ h => opR k h)).trans u9 (fun _ _ h => h)
  have uE12 : Upd R5 wE w12 := ((((Upd.refl.alloc o6 (S := R5)).mono (T := R5) (fun _ _ h => h)).trans (by rw [hF]; exact (uG.mono (T := R5) (fun _ _ f => f.elim))) (fun _ _ h => h)).trans (hu7.mono (T := R5) (fun k _ e => by rw [e]; exact oR)) (fun _ _ h => h)).trans u7 (fun _ _ h => h)
  have u5 : Upd R5 w5 w12 := (uE.mono (T := R5) (fun k _ e => by rw [e]; exact gR)).trans uE12 (fun _ _ h => h)
  have uD12 : Upd R4 wD w12 := (((Upd.refl.alloc _ (S := R4)).alloc _).trans (hu5.mono (T := R4) (fun k _ h => .inr ⟨oldr .mem k (by simp) (hmr k h), hmr k h⟩)) (fun _ _ h => h)).trans u5 (fun _ _ h => .inl h)
  have u4 : Upd R4 w4 w12 := (uD.mono (T := R4) (fun k _ e => by rw [e]; exact .inl gR)).trans uD12 (fun _ _ h => h)
  have uC12 : Upd R3 wC w12 := ((Upd.refl.alloc _ (S := R3)).trans (hu4.mono (T := R3) (fun k _ h => .inr ⟨oldr .find k (by simp) (hfr k h), hfr k h⟩)) (fun _ _ h => h)).trans u4 (fun _ _ h => .inl h)
  have u3 : Upd R3 w3 w12 := (uC.mono (T := R3) (fun k _ e => by rw [e]; exact .inl (.inl gR))).trans uC12 (fun _ _ h => h)
  have uB12 : Upd R2 wB w12 := ((Upd.refl.alloc _ (S := R2)).trans (hu3.mono (T := R2) (fun k _ h => .inr ⟨oldr .sorts k (by simp) (hsr k h), hsr k h⟩)) (fun _ _ h => h)).trans u3 (fun _ _ h => .inl h)
  have u2 : Upd R2 w2 w12 := (uB.mono (T := R2) (fun k _ e => by rw [e]; exact .inl (.inl (.inl gR)))).trans uB12 (fun _ _ h => h)
  have u1 : Upd R1 w1 w12 := ((Upd.refl.alloc _ (S := R1)).trans (hu2.mono (T := R1) (fun k _ h => .inr ⟨oldr .nodes k (by simp) (hlr k h), hlr k h⟩)) (fun _ _ h => h)).trans u2 (fun _ _ h => .inl h)
  have uW : Upd R1 W w12 := (hu1.mono (T := R1) (fun _ _ f => f.elim)).trans u1 (fun _ _ h => h)
  have lt1 : ∀ k, R1 k → k < w.heap.size := by
    rintro k ((((h | h) | h) | h) | h) <;> exact h.1
  have role1 : ∀ k, R1 k → ρ k = .me ∨ ρ k = .ops (op, imm) ∨ ρ k = .byOp ∨ ρ k = .idx ∨ ρ k = .mem ∨ ρ k = .find ∨ ρ k = .sorts ∨ ρ k = .nodes := by
    rintro k ((((h | h) | h) | h) | h)
    · rcases h.2 with h | h | h | h
      · exact .inl h
      · exact .inr (.inl h)
      · exact .inr (.inr (.inl h))
      · exact .inr (.inr (.inr (.inl h)))
    · exact .inr (.inr (.inr (.inr (.inl h.2))))
    · exact .inr (.inr (.inr (.inr (.inr (.inl h.2)))))
    · exact .inr (.inr (.inr (.inr (.inr (.inr (.inl h.2))))))
    · exact .inr (.inr (.inr (.inr (.inr (.inr (.inr h.2))))))
  have eW : ∀ k, k < W.heap.size → (paintL ρ W.heap.size [(w1.heap.size, .kids), (w2.heap.size, .nodes), (w3.heap.size, .sorts), (w4.heap.size, .find), (wD.heap.size + 1, .ins), (w5.heap.size, .mem), (w7.heap.size, .no), (w9.heap.size, .ops (op, imm))]) k = ρ k := fun k hk => paintL_old hk
  have hxo : a.x ≠ a.o := fun e => by rw [e, hor] at hxr; cases hxr
  have hL : (G.add ⟨op, imm, kids⟩).L = G.L ++ [⟨op, imm, kids⟩] := rfl
  have hLl : (G.L ++ [(⟨op, imm, kids⟩ : Nd)]).length = n + 1 := by simp [hn]
  have hc : (G.add ⟨op, imm, kids⟩).c = G.c := rfl
  have hsl : (sortsF G.L).length = n := by unfold sortsF; rw [sortsTo_len]; exact hn
  have dk : ∀ (r : Role), r ≠ .me → (∀ q, r = .ops q → q ≠ (op, imm)) → r ≠ .byOp → r ≠ .idx → r ≠ .mem → r ≠ .find → r ≠ .sorts → r ≠ .nodes → ∀ k, R1 k → ρ k ≠ r := by
    intro r a1 a2 a3 a4 a5 a6 a7 a8 k hk e
    rcases role1 k hk with h | h | h | h | h | h | h | h
    · exact a1 (by rw [← e, h])
    · exact a2 _ (by rw [← e, h]) rfl
    · exact a3 (by rw [← e, h])
    · exact a4 (by rw [← e, h])
    · exact a5 (by rw [← e, h])
    · exact a6 (by rw [← e, h])
    · exact a7 (by rw [← e, h])
    · exact a8 (by rw [← e, h])
  refine ⟨(paintL ρ W.heap.size [(w1.heap.size, .kids), (w2.heap.size, .nodes), (w3.heap.size, .sorts), (w4.heap.size, .find), (wD.heap.size + 1, .ins), (w5.heap.size, .mem), (w7.heap.size, .no), (w9.heap.size, .ops (op, imm))]), ⟨A2, c2, A3, c3, A4, c4, A5, c5, a.o, a.x, a.t, a.tc⟩, ⟨?_, ?_, ?_, ?_, ?_, ?_, ?_, ?_, ?_, ?_⟩, ?_, ?_⟩
  · refine fun k hk => paintL_lt (fun k hk => by have := hbw k hk; omega) ?_ hk
    intro p hp
    simp only [List.mem_cons, List.not_mem_nil, or_false] at hp
    rcases hp with rfl | rfl | rfl | rfl | rfl | rfl | rfl | rfl <;> dsimp only <;> omega
  · rw [eW gb (by have := oldr .me gb (by simp) hgr; omega)]; exact hgr
  · rw [hL, hLl]
    rw [hcs] at hbk
    exact hbk
  · have t1 : NodeCells w12 (fun k => (paintL ρ W.heap.size [(w1.heap.size, .kids), (w2.heap.size, .nodes), (w3.heap.size, .sorts), (w4.heap.size, .find), (wD.heap.size + 1, .ins), (w5.heap.size, .mem), (w7.heap.size, .no), (w9.heap.size, .ops (op, imm))]) k = .kids) lcs G.L :=
      hlc.mono uW (fun k _ hr hS => dk .kids (by simp) (by simp) (by simp) (by simp) (by simp) (by simp) (by simp) (by simp) k hS hr) (fun k hk hr => by rw [eW k hk]; exact hr)
    have t2 : Ints w12 (fun k => (paintL ρ W.heap.size [(w1.heap.size, .kids), (w2.heap.size, .nodes), (w3.heap.size, .sorts), (w4.heap.size, .find), (wD.heap.size + 1, .ins), (w5.heap.size, .mem), (w7.heap.size, .no), (w9.heap.size, .ops (op, imm))]) k = .kids) KB kids :=
      ((hoK.ints.mono (G := fun k => W.heap.size ≤ k ∧ k < w1.heap.size) (fun k hk hA => ⟨hKn k hA, hk⟩)).upd u1 (fun k _ hr hS => by have := lt1 k hS; omega)).mono (fun k _ hr => paintL_at [] hr.1 (by simp) hr.2)
    refine ⟨lcs ++ [.int .i64 op, .int .i64 imm, .slice KB kids.length kd], ?_, t1.snoc (nd := ⟨op, imm, kids⟩) t2 hoK.le, fun k hk => ?_⟩
    · rw [hL, hLl]
      refine ho2.upd u2 (fun k hk hS => ?_)
      have hlt := lt1 k (.inl hS)
      rcases hat2 k hk with h | h
      · have hr := hlr k h
        rcases hS with ((h | h) | h) | h
        · rcases h.2 with h | h | h | h <;> rw [hr] at h <;> cases h
        · have := h.2; rw [hr] at this; cases this
        · have := h.2; rw [hr] at this; cases this
        · have := h.2; rw [hr] at this; cases this
      · simp at h; omega
    · have hlt := ho2.lt hk
      rcases hat2 k hk with h | h
      · rw [eW k (hlo.lt h)]; exact hlr k h
      · simp at h
        exact paintL_at [(w1.heap.size, .kids)] (by omega) (by simp; omega) (by omega)
  · rw [hL, hx]
    refine ⟨?_, fun k hk => ?_⟩
    · rw [List.length_append, hsl, icells_snoc]
      refine ho3.upd u3 (fun k hk hS => ?_)
      have hlt := lt1 k (.inl (.inl hS))
      rcases hat3 k hk with h | h
      · have hr := hsr k h
        rcases hS with (h | h) | h
        · rcases h.2 with h | h | h | h <;> rw [hr] at h <;> cases h
        · have := h.2; rw [hr] at this; cases this
        · have := h.2; rw [hr] at this; cases this
      · simp at h; omega
    · have hlt := ho3.lt hk
      rcases hat3 k hk with h | h
      · rw [eW k (by have := oldr .sorts k (by simp) (hsr k h); omega)]; exact hsr k h
      · simp at h
        exact paintL_at [(w1.heap.size, .kids), (w2.heap.size, .nodes)] (by omega) (by simp; omega) (by omega)
  · rw [hL, hc, clL_snoc hcn, hn]
    refine ⟨?_, fun k hk => ?_⟩
    · rw [List.length_append, clL_len, hn, icells_snoc]
      refine ho4.upd u4 (fun k hk hS => ?_)
      have hlt := lt1 k (.inl (.inl (.inl hS)))
      rcases hat4 k hk with h | h
      · have hr := hfr k h
        rcases hS with h | h
        · rcases h.2 with h | h | h | h <;> rw [hr] at h <;> cases h
        · have := h.2; rw [hr] at this; cases this
      · simp at h; omega
    · have hlt := ho4.lt hk
      rcases hat4 k hk with h | h
      · rw [eW k (by have := oldr .find k (by simp) (hfr k h); omega)]; exact hfr k h
      · simp at h
        exact paintL_at [(w1.heap.size, .kids), (w2.heap.size, .nodes), (w3.heap.size, .sorts)] (by omega) (by simp; omega) (by omega)
  · rw [hL, hLl, hc]
    rw [hn] at hmv hnm hcn
    refine ⟨mS ++ [(some ⟨wD.heap.size, 0, none⟩, 1)], by simp [hmSl], ?_, fun k hk => ?_, fun i hi => ?_⟩
    · rw [scells_snoc hcn hnm hmSl]
      refine ho5.upd u5 (fun k hk hS => ?_)
      have hlt := lt1 k (.inl (.inl (.inl (.inl hS))))
      rcases hat5 k hk with h | h
      · have hr := hmr k h
        rcases hS.2 with h | h | h | h <;> rw [hr] at h <;> cases h
      · simp at h; omega
    · have hlt := ho5.lt hk
      rcases hat5 k hk with h | h
      · rw [eW k (by have := oldr .mem k (by simp) (hmr k h); omega)]; exact hmr k h
      · simp at h
        exact paintL_at [(w1.heap.size, .kids), (w2.heap.size, .nodes), (w3.heap.size, .sorts), (w4.heap.size, .find), (wD.heap.size + 1, .ins)] (by omega) (by simp; omega) (by omega)
    · by_cases e : i < n
      · rw [memL_snoc hcn e]
        have hg : (mS ++ [((some ⟨wD.heap.size, 0, none⟩ : Option Addr), 1)]).getD i (none, 0) = mS.getD i (none, 0) := by simp [List.getD, List.getElem?_append_left (show i < mS.length by omega)]
        rw [hg]
        exact ⟨(hmv i e).1.upd' uW (fun k _ hS => dk .ins (by simp) (by simp) (by simp) (by simp) (by simp) (by simp) (by simp) (by simp) k hS) eW, (hmv i e).2⟩
      · have e : i = n := by omega
        subst e
        rw [memL_last hcn hnm]
        have hg : (mS ++ [((some ⟨wD.heap.size, 0, none⟩ : Option Addr), 1)]).getD i (none, 0) = (some ⟨wD.heap.size, 0, none⟩, 1) := by rw [← hmSl]; simp [List.getD]
        rw [hg]
        have bi := (((Blk.new wD 3 #[.int .i64 (i : Int)]).alloc o5).upd hu5 (fun h => by have := oldr .mem _ (by simp) (hmr _ h); omega)).upd u5 (fun h => by have := lt1 _ (.inl (.inl (.inl (.inl h)))); omega)
        exact ⟨Sl.of_blk (F := fun k => (paintL ρ W.heap.size [(w1.heap.size, .kids), (w2.heap.size, .nodes), (w3.heap.size, .sorts), (w4.heap.size, .find), (wD.heap.size + 1, .ins), (w5.heap.size, .mem), (w7.heap.size, .no), (w9.heap.size, .ops (op, imm))]) k = .ins) (paintL_at [(w1.heap.size, .kids), (w2.heap.size, .nodes), (w3.heap.size, .sorts), (w4.heap.size, .find)] (by omega) (by simp; omega) (by omega)) bi 1, by simp⟩
  · refine ⟨_, hom10.upd u10x (fun e => hxo e.symm), by rw [eW a.o (by have := oldr .byOp a.o (by simp) hor; omega)]; exact hor, fun q => ?_⟩
    by_cases e : q = (op, imm)
    · subst e
      right
      have hq : opL (G.L ++ [⟨op, imm, kids⟩]) (op, imm) = ol ++ [(n : Int)] := by rw [opL_snoc, if_pos rfl, hol, hn]
      rw [hL, hq]
      refine ⟨A9, c9, by simp, ?_, fun k hk => ?_⟩
      · rw [List.length_append, icells_snoc]
        refine ho9.upd u9x (fun k hk hS => ?_)
        rcases hat9 k hk with h | h
        · have hr := horl k h
          rcases hS with h | h
          · rw [h, hor] at hr; cases hr
          · rw [h, hxr] at hr; cases hr
        · rcases hS with h' | h'
          · have := oldr .byOp _ (by simp) hor; omega
          · have := oldr .idx _ (by simp) hxr; omega
      · have hlt := ho9.lt hk
        rcases hat9 k hk with h | h
        · rw [eW k (by have := oldr (.ops (op, imm)) k (by simp) (horl k h); omega)]; exact horl k h
        · exact paintL_at [(w1.heap.size, .kids), (w2.heap.size, .nodes), (w3.heap.size, .sorts), (w4.heap.size, .find), (wD.heap.size + 1, .ins), (w5.heap.size, .mem), (w7.heap.size, .no)] (by omega) (by simp; omega) (by omega)
    · have hq : opL (G.L ++ [⟨op, imm, kids⟩]) q = opL G.L q := by rw [opL_snoc, if_neg e]
      have hm : (fun q => if q = (op, imm) then some (Value.slice A9 (ol.length + 1) c9) else (fun q => if q = (op, imm) then some v0 else om q) q) q = om q := by simp [e]
      have h1 := (hoe q).upd (S := R1) uW (fun k _ hS => dk (.ops q) (by simp) (fun q' h => by injection h with h; rw [← h]; exact e) (by simp) (by simp) (by simp) (by simp) (by simp) (by simp) k hS) eW
      unfold OpE at h1 ⊢
      rw [hL, hq, hm]
      exact h1
  · refine ⟨?_, by rw [eW a.x (by have := oldr .idx a.x (by simp) hxr; omega)]; exact hxr⟩
    rw [hL, idxV_snoc hidx, hn]
    exact hx12
  · exact hM.t.upd uW (fun k _ hS => ⟨dk .steps (by simp) (by simp) (by simp) (by simp) (by simp) (by simp) (by simp) (by simp) k hS, dk .vars (by simp) (by simp) (by simp) (by simp) (by simp) (by simp) (by simp) (by simp) k hS⟩) eW
  · refine (hU.mono (T := Mine ρ) (fun _ _ f => f.elim)).trans uW (fun k _ hS => ?_)
    rcases role1 k hS with h | h | h | h | h | h | h | h <;> (show ρ k ≠ .no) <;> rw [h] <;> simp
  · exact fun k hk => eW k (by omega)
end Go.Proofs.Ytigambcefdeaoaa

namespace Go.Proofs.Ytigambcefdeaoaa
open Go.RowKit

theorem zeroInts (w : World) : (zeroValue 22).run Try.prog w = .ok (.slice none 0 0) w := by
  have h : (Try.prog.info? 22).bind (·.zero) = some (.slice none 0 0) := by kernel_rfl
  cases hi : Try.prog.info? 22 with
  | none => rw [hi] at h; cases h
  | some i => rw [hi] at h; simp at h; simp [zeroValue, typeInfo, hi, h]
theorem Sl.new2 (w : World) (o : Obj) (t : TypeId) (cs : List Value) : Sl ((w.alloc o).alloc (.cells cs.toArray t)) (· = w.heap.size + 1) (some ⟨w.heap.size + 1, 0, none⟩) cs := by
  have := Sl.new (w.alloc o) t cs
  rwa [show (w.alloc o).heap.size = w.heap.size + 1 by simp] at this

set_option maxRecDepth 100000 in
set_option maxHeartbeats 4000000 in
theorem gInsert_c (w : World) (ρ : Nat → Role) (gb : Nat) (a : GA) (G : EG) (h : GM w ρ gb a G) (hn : G.L.length < 2000) (hnm : Named G.L.length G.c) (hcn : G.c G.L.length = G.L.length) (op imm : Int) (kids : List Int)
    (KA : Option Addr) (kc : Nat) (F : Nat → Prop) (hk : Ints w F KA kids) (hF : ∀ k, k < w.heap.size → F k → ρ k = .no) (hkl : kids.length ≤ 33) (x : Int) (hx : sortsF (G.L ++ [⟨op, imm, kids⟩]) = sortsF G.L ++ [x]) (hidx : idxF G.L (ndKey ⟨op, imm, kids⟩) = none) :
    Calls Try.prog 36 #[gp gb, .agg #[.int .i64 op, .int .i64 imm, .slice KA kids.length kc], .int .i64 x] w fun e w' => e = .returned (.int .i64 (G.L.length : Int)) ∧ ∃ ρ' a', GM w' ρ' gb a' (G.add ⟨op, imm, kids⟩) ∧ Upd (Mine ρ) w w' ∧ ∀ k, k < w.heap.size → ρ' k = ρ k := by
  have hk0 := hk.mono (G := fun k => k < w.heap.size ∧ ρ k = .no) (fun k hk hf => ⟨hk, hF k hk hf⟩)
  clear hk hF
  obtain ⟨W, HW⟩ := nm (w.alloc (.cells #[.int .i64 op, .int .i64 imm, .slice KA kids.length kc] 24))
  have hU : Upd Non w W := by rw [← HW.out]; exact Upd.refl.alloc _
  have hb : Blk W w.heap.size 24 #[.int .i64 op, .int .i64 imm, .slice KA kids.length kc] := by rw [← HW.out]; exact Blk.new _ _ _
  have hk1 := hk0.upd hU (fun _ _ _ f => f)
  have e0 := HW.out
  have hM := h.non hU
  have Hbw := Lib.hid h.bnd
  have hgw : gb < w.heap.size := h.blk.lt
  have hgr := hM.me
  clear hk0 h
  obtain ⟨lcs, hlo, hlc, hlr⟩ := hM.l
  have c0 := hM.c0
  have d0 := hb.cell 0
  have d1 := hb.cell 1
  have d2 := hb.cell 2
  have hlW : ∀ k, At a.l k → k < w.heap.size := fun k hk => Hbw.out k (by rw [hlr k hk]; simp)
  have hgl : ¬ At a.l gb := fun h => by have := hlr gb h; rw [hgr] at this; cases this
  have hbkW := hM.blk
  have hMM := Lib.hid hM
  have HX := Lib.hid hx
  have HI := Lib.hid hidx
  have HNM := Lib.hid hnm
  have HCN := Lib.hid hcn
  have hso := hM.s.1
  have hsl : (sortsF G.L).length = G.L.length := by unfold sortsF; exact sortsTo_len _ _
  rw [hsl] at hso
  have hfo := hM.fown
  obtain ⟨mS, hmSl, hmo, hmr, hmv⟩ := hM.m
  have hsr := hM.s.2
  have hfr := hM.f.2
  have HMV := Lib.hid hmv
  clear hM hx hidx hnm hcn hmv hsl
  unfold GA.cells at hbkW
  obtain ⟨n, Hn⟩ := nm G.L.length
  rw [Hn.out] at hn c0 hlo hbkW hso hfo hmo hmSl ⊢
  have sbox : ∀ w', Upd Non W w' → w'.cell? ⟨w.heap.size, 0, none⟩ = some (.int .i64 op) ∧ w'.cell? ⟨w.heap.size, 1, none⟩ = some (.int .i64 imm) ∧ w'.cell? ⟨w.heap.size, 2, none⟩ = some (.slice KA kids.length kc) := fun w' u => ⟨cell_upd d0 u (fun f => f), cell_upd d1 u (fun f => f), cell_upd d2 u (fun f => f)⟩
  have sbox8 : ∀ (w7 w' : World) (o : Obj), Upd Non W w7 → Upd (At a.l) (w7.alloc o) w' → w'.cell? ⟨w.heap.size, 0, none⟩ = some (.int .i64 op) ∧ w'.cell? ⟨w.heap.size, 1, none⟩ = some (.int .i64 imm) ∧ w'.cell? ⟨w.heap.size, 2, none⟩ = some (.slice KA kids.length kc) := fun w7 w' o u u2 => by
    obtain ⟨p0, p1, p2⟩ := sbox _ (u.alloc o)
    have hno : ¬ At a.l w.heap.size := fun h => by have := hlW _ h; omega
    exact ⟨cell_upd p0 u2 hno, cell_upd p1 u2 hno, cell_upd p2 u2 hno⟩
  have sboxF : ∀ (w0 : World) (i : Nat) (v : Value), (fun w' : World => w'.cell? ⟨w.heap.size, 0, none⟩ = some (.int .i64 op) ∧ w'.cell? ⟨w.heap.size, 1, none⟩ = some (.int .i64 imm) ∧ w'.cell? ⟨w.heap.size, 2, none⟩ = some (.slice KA kids.length kc)) w0 → (fun w' : World => w'.cell? ⟨w.heap.size, 0, none⟩ = some (.int .i64 op) ∧ w'.cell? ⟨w.heap.size, 1, none⟩ = some (.int .i64 imm) ∧ w'.cell? ⟨w.heap.size, 2, none⟩ = some (.slice KA kids.length kc)) (w0.setCell ⟨gb, i, none⟩ v) := fun w0 i v hp => by
    have hno : w.heap.size ≠ gb := by omega
    obtain ⟨p0, p1, p2⟩ := hp
    exact ⟨cell_upd p0 (updCell w0 gb i v) hno, cell_upd p1 (updCell w0 gb i v) hno, cell_upd p2 (updCell w0 gb i v) hno⟩
  have C7 := Lib.hid (cloneNode_c W.drew op imm kids KA kc (fun k => k < w.heap.size ∧ ρ k = .no) (hk1.upd (Upd.refl.drew (S := Non)) (fun _ _ _ f => f)) (by omega))
  have HSB := Lib.hid sbox
  have HSB8 := Lib.hid sbox8
  have HSBF := Lib.hid sboxF
  clear sbox sbox8 sboxF
  unfold gp
  go_enter Try.func36, Try.ntmps36
  go_wp2_with fail
  go_cut [22] (fun _ wx => ∃ (KB A2 : Option Addr) (kd c2 : Nat) (w1 w2 : World), Own w1 3 1 KB kids.length kd (icells kids) ∧ Hid (∀ k, At KB k → W.heap.size ≤ k) ∧ Upd Non W w1 ∧ Own w2 24 3 A2 (n + 1) c2 (lcs ++ [.int .i64 op, .int .i64 imm, .slice KB kids.length kd]) ∧
    Upd (At a.l) (w1.alloc (.cells #[.int .i64 op, .int .i64 imm, .slice KB kids.length kd] 24)) w2 ∧ Hid (∀ k, At A2 k → At a.l k ∨ k = (w1.alloc (.cells #[.int .i64 op, .int .i64 imm, .slice KB kids.length kd] 24)).heap.size) ∧ wx = w2.setCell ⟨gb, 0, none⟩ (.slice A2 (n + 1) c2))
  case first =>
    have q6 := HSB.out _ (Upd.refl (S := Non)).drew
    refine wp_region_held_drew (S := fun w' => w'.cell? ⟨w.heap.size, 0, none⟩ = some (.int .i64 op) ∧ w'.cell? ⟨w.heap.size, 1, none⟩ = some (.int .i64 imm) ∧ w'.cell? ⟨w.heap.size, 2, none⟩ = some (.slice KA kids.length kc)) (by kernel_rfl) q6 (fun hHeld => ?_)
    refine wpAnyH_take (i := 0) (v := ?_) rfl (by kernel_rfl) (by kernel_rfl) (by kernel_rfl) (fun _ _ _ h => h) (Or.inl ⟨by rfl, ?_⟩) (by assumption) ?_
    rotate_left
    · intro w hSw; (try dsimp only at hSw); go_simp; try with_reducible rfl
    try simp only [put_z]
    refine wpAnyH_take (i := 1) (v := ?_) rfl (by kernel_rfl) (by kernel_rfl) (by kernel_rfl) (fun _ _ _ h => h) (Or.inl ⟨by rfl, ?_⟩) (by assumption) ?_
    rotate_left
    · intro w hSw; (try dsimp only at hSw); go_simp; try with_reducible rfl
    try simp only [put_z]
    refine wpAnyH_take (i := 2) (v := ?_) rfl (by kernel_rfl) (by kernel_rfl) (by kernel_rfl) (fun _ _ _ h => h) (Or.inl ⟨by rfl, ?_⟩) (by assumption) ?_
    rotate_left
    · intro w hSw; (try dsimp only at hSw); go_simp; try with_reducible rfl
    try simp only [put_z]
    refine wpAnyH_take (i := 3) (v := ?_) rfl (by kernel_rfl) (by kernel_rfl) (by kernel_rfl) (fun _ _ _ h => h) (Or.inl ⟨by rfl, ?_⟩) (by assumption) ?_
    rotate_left
    · intro w hSw; (try dsimp only at hSw); go_simp; try with_reducible rfl
    try simp only [put_z]
    refine wpAnyH_take (i := 5) (v := ?_) rfl (by kernel_rfl) (by kernel_rfl) (by kernel_rfl) (fun _ _ _ h => h) (Or.inl ⟨by rfl, ?_⟩) (by assumption) ?_
    rotate_left
    · intro w hSw; (try dsimp only at hSw); go_simp; try with_reducible rfl
    try simp only [put_z]
    refine wpAnyH_ready (rs := [4, 6]) (by kernel_rfl) (by simp) ?_
    refine AllReadyH.cons rfl (fun K hK => ?_) (AllReadyH.cons rfl (fun K hK => ?_) AllReadyH.nil)
    · go_simp
      refine hK.out _ _ ?_ (fun hHeld => ?_)
      · exact q6
      clear hK K
      try simp only [put_z]
      refine wpAnyH_ready (rs := [6]) (by kernel_rfl) (by simp) ?_
      refine AllReadyH.cons rfl (fun K hK => ?_) AllReadyH.nil
      go_simp
      refine C7.out.mono ?_
      rintro e w1 ⟨KB, kd, rfl, hoK, hKn, hu1'⟩
      have hu1 : Upd Non W w1 := Upd.refl.drew.then_non hu1'
      have q7 := HSB.out w1 hu1
      have c07 := cell_upd c0 hu1 (fun f => f)
      have cA7 := cell_upd c07 (Upd.refl.alloc (.cells #[.int .i64 op, .int .i64 imm, .slice KB kids.length kd] 24) (S := Non)) (fun f => f)
      have qA7 := HSB.out _ (hu1.alloc (.cells #[.int .i64 op, .int .i64 imm, .slice KB kids.length kd] 24))
      have ho7 := (hlo.upd hu1 (fun _ _ f => f)).alloc (.cells #[.int .i64 op, .int .i64 imm, .slice KB kids.length kd] 24)
      go_wp2_with fail
      refine hK.out _ _ ?_ (fun hHeld => ?_)
      · exact q7
      clear hK K
      try simp only [put_z]
      refine wpAnyH_ready (rs := [7]) (by kernel_rfl) (by simp) ?_
      refine AllReadyH.cons rfl (fun K hK => ?_) AllReadyH.nil
      go_simp
      refine hK.out _ _ ?_ (fun hHeld => ?_)
      · exact qA7
      clear hK K
      try simp only [put_z]
      refine wpAnyH_ready (rs := [8]) (by kernel_rfl) (by simp) ?_
      refine AllReadyH.cons rfl (fun K hK => ?_) AllReadyH.nil
      refine step_app rfl rfl T_nodes rfl ho7 rfl (Sl.new _ _ _) rfl (by simp [Value.oneCell']) (by simp only [maxLen]; omega) (by omega) ?_
      intro A8 c8 w8 ho8 hu8 hat8
      have hb8 := (hbkW.upd hu1 (fun f => f)).alloc (.cells #[.int .i64 op, .int .i64 imm, .slice KB kids.length kd] 24) |>.upd hu8 hgl
      have c68 := hb8.cell 0
      have f68 := hb8.frozen 0
      have q8 := HSB8.out w1 w8 _ hu1 hu8
      refine hK.out _ _ ?_ (fun hHeld => ?_)
      · exact q8
      clear hK K
      try simp only [put_z]
      refine wpAnyH_take (i := 9) (v := ?_) rfl (by kernel_rfl) (by kernel_rfl) (by kernel_rfl) (fun _ _ _ h => h) (Or.inl ⟨by rfl, ?_⟩) (by assumption) ?_
      rotate_left
      · intro w hSw; (try dsimp only at hSw); go_simp; try with_reducible rfl
      try simp only [put_z]
      refine wpAnyH_take (i := 10) (v := ?_) rfl (by kernel_rfl) (by kernel_rfl) (by kernel_rfl) (fun _ _ _ h => h) (Or.inl ⟨by rfl, ?_⟩) (by assumption) ?_
      rotate_left
      · intro w hSw; (try dsimp only at hSw); go_simp; try with_reducible rfl
      try simp only [put_z]
      refine wpAnyH_ready (rs := [11]) (by kernel_rfl) (by simp) ?_
      refine AllReadyH.cons rfl (fun K hK => ?_) AllReadyH.nil
      go_simp
      refine hK.out _ _ ?_ (fun hHeld => ?_)
      · exact HSBF.out _ _ _ q8
      clear hK K
      try simp only [put_z]
      refine wpAnyH_done (by kernel_rfl) ?_ _
      go_wp2_with fail
      go_meet
      exact ⟨KB, A8, kd, c8, w1, w8, hoK, hKn, hu1, ho8, hu8, hat8, rfl⟩
    · go_simp
      refine C7.out.mono ?_
      rintro e w1 ⟨KB, kd, rfl, hoK, hKn, hu1'⟩
      have hu1 : Upd Non W w1 := Upd.refl.drew.then_non hu1'
      have q7 := HSB.out w1 hu1
      have c07 := cell_upd c0 hu1 (fun f => f)
      have cA7 := cell_upd c07 (Upd.refl.alloc (.cells #[.int .i64 op, .int .i64 imm, .slice KB kids.length kd] 24) (S := Non)) (fun f => f)
      have qA7 := HSB.out _ (hu1.alloc (.cells #[.int .i64 op, .int .i64 imm, .slice KB kids.length kd] 24))
      have ho7 := (hlo.upd hu1 (fun _ _ f => f)).alloc (.cells #[.int .i64 op, .int .i64 imm, .slice KB kids.length kd] 24)
      go_wp2_with fail
      refine hK.out _ _ ?_ (fun hHeld => ?_)
      · exact q7
      clear hK K
      try simp only [put_z]
      refine wpAnyH_ready (rs := [4, 7]) (by kernel_rfl) (by simp) ?_
      refine AllReadyH.cons rfl (fun K hK => ?_) (AllReadyH.cons rfl (fun K hK => ?_) AllReadyH.nil)
      · go_simp
        refine hK.out _ _ ?_ (fun hHeld => ?_)
        · exact q7
        clear hK K
        try simp only [put_z]
        refine wpAnyH_ready (rs := [7]) (by kernel_rfl) (by simp) ?_
        refine AllReadyH.cons rfl (fun K hK => ?_) AllReadyH.nil
        go_simp
        refine hK.out _ _ ?_ (fun hHeld => ?_)
        · exact qA7
        clear hK K
        try simp only [put_z]
        refine wpAnyH_ready (rs := [8]) (by kernel_rfl) (by simp) ?_
        refine AllReadyH.cons rfl (fun K hK => ?_) AllReadyH.nil
        refine step_app rfl rfl T_nodes rfl ho7 rfl (Sl.new _ _ _) rfl (by simp [Value.oneCell']) (by simp only [maxLen]; omega) (by omega) ?_
        intro A8 c8 w8 ho8 hu8 hat8
        have hb8 := (hbkW.upd hu1 (fun f => f)).alloc (.cells #[.int .i64 op, .int .i64 imm, .slice KB kids.length kd] 24) |>.upd hu8 hgl
        have c68 := hb8.cell 0
        have f68 := hb8.frozen 0
        have q8 := HSB8.out w1 w8 _ hu1 hu8
        refine hK.out _ _ ?_ (fun hHeld => ?_)
        · exact q8
        clear hK K
        try simp only [put_z]
        refine wpAnyH_take (i := 9) (v := ?_) rfl (by kernel_rfl) (by kernel_rfl) (by kernel_rfl) (fun _ _ _ h => h) (Or.inl ⟨by rfl, ?_⟩) (by assumption) ?_
        rotate_left
        · intro w hSw; (try dsimp only at hSw); go_simp; try with_reducible rfl
        try simp only [put_z]
        refine wpAnyH_take (i := 10) (v := ?_) rfl (by kernel_rfl) (by kernel_rfl) (by kernel_rfl) (fun _ _ _ h => h) (Or.inl ⟨by rfl, ?_⟩) (by assumption) ?_
        rotate_left
        · intro w hSw; (try dsimp only at hSw); go_simp; try with_reducible rfl
        try simp only [put_z]
        refine wpAnyH_ready (rs := [11]) (by kernel_rfl) (by simp) ?_
        refine AllReadyH.cons rfl (fun K hK => ?_) AllReadyH.nil
        go_simp
        refine hK.out _ _ ?_ (fun hHeld => ?_)
        · exact HSBF.out _ _ _ q8
        clear hK K
        try simp only [put_z]
        refine wpAnyH_done (by kernel_rfl) ?_ _
        go_wp2_with fail
        go_meet
        exact ⟨KB, A8, kd, c8, w1, w8, hoK, hKn, hu1, ho8, hu8, hat8, rfl⟩
      · go_simp
        refine hK.out _ _ ?_ (fun hHeld => ?_)
        · exact qA7
        clear hK K
        try simp only [put_z]
        refine wpAnyH_ready (rs := [4]) (by kernel_rfl) (by simp) ?_
        refine AllReadyH.cons rfl (fun K hK => ?_) AllReadyH.nil
        go_simp
        refine hK.out _ _ ?_ (fun hHeld => ?_)
        · exact qA7
        clear hK K
        try simp only [put_z]
        refine wpAnyH_ready (rs := [8]) (by kernel_rfl) (by simp) ?_
        refine AllReadyH.cons rfl (fun K hK => ?_) AllReadyH.nil
        refine step_app rfl rfl T_nodes rfl ho7 rfl (Sl.new _ _ _) rfl (by simp [Value.oneCell']) (by simp only [maxLen]; omega) (by omega) ?_
        intro A8 c8 w8 ho8 hu8 hat8
        have hb8 := (hbkW.upd hu1 (fun f => f)).alloc (.cells #[.int .i64 op, .int .i64 imm, .slice KB kids.length kd] 24) |>.upd hu8 hgl
        have c68 := hb8.cell 0
        have f68 := hb8.frozen 0
        have q8 := HSB8.out w1 w8 _ hu1 hu8
        refine hK.out _ _ ?_ (fun hHeld => ?_)
        · exact q8
        clear hK K
        try simp only [put_z]
        refine wpAnyH_take (i := 9) (v := ?_) rfl (by kernel_rfl) (by kernel_rfl) (by kernel_rfl) (fun _ _ _ h => h) (Or.inl ⟨by rfl, ?_⟩) (by assumption) ?_
        rotate_left
        · intro w hSw; (try dsimp only at hSw); go_simp; try with_reducible rfl
        try simp only [put_z]
        refine wpAnyH_take (i := 10) (v := ?_) rfl (by kernel_rfl) (by kernel_rfl) (by kernel_rfl) (fun _ _ _ h => h) (Or.inl ⟨by rfl, ?_⟩) (by assumption) ?_
        rotate_left
        · intro w hSw; (try dsimp only at hSw); go_simp; try with_reducible rfl
        try simp only [put_z]
        refine wpAnyH_ready (rs := [11]) (by kernel_rfl) (by simp) ?_
        refine AllReadyH.cons rfl (fun K hK => ?_) AllReadyH.nil
        go_simp
        refine hK.out _ _ ?_ (fun hHeld => ?_)
        · exact HSBF.out _ _ _ q8
        clear hK K
        try simp only [put_z]
        refine wpAnyH_done (by kernel_rfl) ?_ _
        go_wp2_with fail
        go_meet
        exact ⟨KB, A8, kd, c8, w1, w8, hoK, hKn, hu1, ho8, hu8, hat8, rfl⟩
  case rest =>
  obtain ⟨KB, A2, kd, c2, w1, w2, hoK, HKn, hu1, ho2, hu2, HA2, rfl⟩ := hcut
  have hsW : ∀ k, At a.s k → k < w.heap.size := fun k hk => Hbw.out k (by rw [hsr k hk]; simp)
  have hfW : ∀ k, At a.f k → k < w.heap.size := fun k hk => Hbw.out k (by rw [hfr k hk]; simp)
  have hmW : ∀ k, At a.m k → k < w.heap.size := fun k hk => Hbw.out k (by rw [hmr k hk]; simp)
  have hgs : ¬ At a.s gb := fun h => by have := hsr gb h; rw [hgr] at this; cases this
  have hgf : ¬ At a.f gb := fun h => by have := hfr gb h; rw [hgr] at this; cases this
  have hgm : ¬ At a.m gb := fun h => by have := hmr gb h; rw [hgr] at this; cases this
  have xls : ∀ k, At a.s k → ¬ At a.l k := fun k h h' => by have := hsr k h; rw [hlr k h'] at this; cases this
  have xlf : ∀ k, At a.f k → ¬ At a.l k := fun k h h' => by have := hfr k h; rw [hlr k h'] at this; cases this
  have xlm : ∀ k, At a.m k → ¬ At a.l k := fun k h h' => by have := hmr k h; rw [hlr k h'] at this; cases this
  have xsf : ∀ k, At a.f k → ¬ At a.s k := fun k h h' => by have := hfr k h; rw [hsr k h'] at this; cases this
  have xsm : ∀ k, At a.m k → ¬ At a.s k := fun k h h' => by have := hmr k h; rw [hsr k h'] at this; cases this
  have xfm : ∀ k, At a.m k → ¬ At a.f k := fun k h h' => by have := hmr k h; rw [hfr k h'] at this; cases this
  have hbk2 := ((((hbkW.upd hu1 (fun f => f)).alloc (.cells #[.int .i64 op, .int .i64 imm, .slice KB kids.length kd] 24)).upd hu2 hgl).set_ 0 (.slice A2 (n + 1) c2))
  have hbx2 := (((hb.upd hu1 (fun f => f)).alloc (.cells #[.int .i64 op, .int .i64 imm, .slice KB kids.length kd] 24)).upd hu2 (fun h => by have := hlW _ h; omega)).upd (updCell w2 gb 0 (.slice A2 (n + 1) c2)) (by omega)
  have uB : Upd (fun k => At a.l k ∨ k = gb) W (w2.setCell ⟨gb, 0, none⟩ (.slice A2 (n + 1) c2)) := ((((hu1.alloc (.cells #[.int .i64 op, .int .i64 imm, .slice KB kids.length kd] 24)).mono (T := At a.l) (fun _ _ f => f.elim)).trans hu2 (fun _ _ h => h)).mono (T := fun k => At a.l k ∨ k = gb) (fun _ _ h => .inl h)).trans (updCell w2 gb 0 _) (fun _ _ h => .inr h)
  have hs2 := hso.upd uB (fun k hk h => by rcases h with h | h; exact xls k hk h; rw [h] at hk; exact hgs hk)
  have hf2 := hfo.upd uB (fun k hk h => by rcases h with h | h; exact xlf k hk h; rw [h] at hk; exact hgf hk)
  have hm2 := hmo.upd uB (fun k hk h => by rcases h with h | h; exact xlm k hk h; rw [h] at hk; exact hgm hk)
  obtain ⟨wB, HB⟩ := nm (w2.setCell ⟨gb, 0, none⟩ (.slice A2 (n + 1) c2))
  rw [HB.out] at hbk2 hbx2 uB hs2 hf2 hm2 ⊢
  have c21 := hbk2.cell 1
  go_upto_region 4 with (at_builtin; refine wpList_app rfl rfl T_ints' rfl (hs2.alloc _) rfl (Sl.new _ _ _) rfl (by simp [Value.oneCell']) (by simp only [maxLen]; omega) (by omega) ?_; intro A3 c3 w3 ho3 hu3 hat3; have b3 := (hbk2.alloc (.cells #[.int .i64 x] 3)).upd hu3 hgs; have bx3 := (hbx2.alloc (.cells #[.int .i64 x] 3)).upd hu3 (fun h => by have := hsW _ h; omega); have f31 := b3.frozen 1; have c31 := b3.cell 1; have c32 := b3.cell 2; have uC := updCell w3 gb 1 (.slice A3 (n + 1) c3); have hf3 := ((hf2.alloc (.cells #[.int .i64 x] 3)).upd hu3 (fun k hk h => xsf k hk h)).upd (updCell w3 gb 1 (.slice A3 (n + 1) c3)) (fun k hk e => by rw [e] at hk; exact hgf hk); have hm3 := ((hm2.alloc (.cells #[.int .i64 x] 3)).upd hu3 (fun k hk h => xsm k hk h)).upd (updCell w3 gb 1 (.slice A3 (n + 1) c3)) (fun k hk e => by rw [e] at hk; exact hgm hk); have b3' := b3.set_ 1 (.slice A3 (n + 1) c3); have bx3' := bx3.upd (updCell w3 gb 1 (.slice A3 (n + 1) c3)) (by omega); obtain ⟨wC, HC⟩ := nm (w3.setCell ⟨gb, 1, none⟩ (.slice A3 (n + 1) c3)); have eC := HC.out; rw [HC.out] at hf3 hm3 b3' bx3' uC; have c32' := b3'.cell 2)
  go_upto_region 5 with (at_builtin; refine wpList_app rfl rfl T_ints' rfl (hf3.alloc _) rfl (Sl.new _ _ _) rfl (by simp [Value.oneCell']) (by simp only [maxLen]; omega) (by omega) ?_; intro A4 c4 w4 ho4 hu4 hat4; have b4 := (b3'.alloc (.cells #[.int .i64 (n : Int)] 3)).upd hu4 hgf; have bx4 := (bx3'.alloc (.cells #[.int .i64 (n : Int)] 3)).upd hu4 (fun h => by have := hfW _ h; omega); have f42 := b4.frozen 2; have c42 := b4.cell 2; have c43 := b4.cell 3; have hm4 := ((hm3.alloc (.cells #[.int .i64 (n : Int)] 3)).upd hu4 (fun k hk h => xfm k hk h)).upd (updCell w4 gb 2 (.slice A4 (n + 1) c4)) (fun k hk e => by rw [e] at hk; exact hgm hk); have b4' := b4.set_ 2 (.slice A4 (n + 1) c4); have bx4' := bx4.upd (updCell w4 gb 2 (.slice A4 (n + 1) c4)) (by omega); have uD := updCell w4 gb 2 (.slice A4 (n + 1) c4); obtain ⟨wD, HD⟩ := nm (w4.setCell ⟨gb, 2, none⟩ (.slice A4 (n + 1) c4)); have eD := HD.out; rw [HD.out] at hm4 b4' bx4' uD; have c43' := b4'.cell 3)
  go_wp2_with (at_builtin; refine wpList_app rfl rfl T_intss rfl ((hm4.alloc _).alloc _) rfl (Sl.new2 _ _ _ _) rfl (by simp [Value.oneCell']) (by simp only [maxLen]; omega) (by omega) ?_; intro A5 c5 w5 ho5 hu5 hat5; have b5 := ((b4'.alloc _).alloc _).upd hu5 hgm; have bx5 := ((bx4'.alloc _).alloc _).upd hu5 (fun h => by have := hmW _ h; omega); have f53 := b5.frozen 3; have c53 := b5.cell 3; have bx5' := bx5.upd (updCell w5 gb 3 (.slice A5 (n + 1) c5)) (by omega); have b5' := b5.set_ 3 (.slice A5 (n + 1) c5); have uE := updCell w5 gb 3 (.slice A5 (n + 1) c5); obtain ⟨wE, HE⟩ := nm (w5.setCell ⟨gb, 3, none⟩ (.slice A5 (n + 1) c5)); have eE := HE.out; rw [HE.out] at b5' bx5' uE; have y0 := bx5'.cell 0; have y1 := bx5'.cell 1)
  have uWE : Upd (fun k => ρ k = .nodes ∨ ρ k = .sorts ∨ ρ k = .find ∨ ρ k = .mem ∨ ρ k = .me) W wE :=
    (((((((uB.mono (T := fun k => ρ k = .nodes ∨ ρ k = .sorts ∨ ρ k = .find ∨ ρ k = .mem ∨ ρ k = .me) (fun k _ h => by rcases h with h | h; exact .inl (hlr k h); exact .inr (.inr (.inr (.inr (by rw [h]; exact hgr)))))).alloc _).trans hu3 (fun k _ h => .inr (.inl (hsr k h)))).trans uC (fun k _ h => .inr (.inr (.inr (.inr (by rw [h]; exact hgr)))))).alloc _ |>.trans hu4 (fun k _ h => .inr (.inr (.inl (hfr k h))))).trans uD (fun k _ h => .inr (.inr (.inr (.inr (by rw [h]; exact hgr)))))).alloc _ |>.alloc _ |>.trans hu5 (fun k _ h => .inr (.inr (.inr (.inl (hmr k h)))))).trans uE (fun k _ h => .inr (.inr (.inr (.inr (by rw [h]; exact hgr)))))
  obtain ⟨om, hom, hor, hoe⟩ := hMM.out.o
  obtain ⟨hxm, hxr⟩ := hMM.out.x
  have hnr : ∀ k, (ρ k = .byOp ∨ ρ k = .idx ∨ (∃ q, ρ k = .ops q) ∨ ρ k = .no) → ¬ (ρ k = .nodes ∨ ρ k = .sorts ∨ ρ k = .find ∨ ρ k = .mem ∨ ρ k = .me) := fun k h h' => by
    rcases h with h | h | ⟨q, h⟩ | h <;> rw [h] at h' <;> simp at h'
  have hoW : a.o < w.heap.size := Hbw.out _ (by rw [hor]; simp)
  have hxW : a.x < w.heap.size := Hbw.out _ (by rw [hxr]; simp)
  have hog : a.o ≠ gb := fun e => by rw [e, hgr] at hor; cases hor
  have hxg : a.x ≠ gb := fun e => by rw [e, hgr] at hxr; cases hxr
  have hxo : a.x ≠ a.o := fun e => by rw [e, hor] at hxr; cases hxr
  have sWE := uWE.size
  have sW := hU.size
  have hblW : w.heap.size < W.heap.size := hb.lt
  obtain ⟨OA, oc, hoval, hoown, horl⟩ : ∃ OA oc, (om (op, imm)).getD (.slice none 0 0) = .slice OA (opL G.L (op, imm)).length oc ∧ Own W 3 1 OA (opL G.L (op, imm)).length oc (icells (opL G.L (op, imm))) ∧ ∀ k, At OA k → ρ k = .ops (op, imm) := by
    rcases hoe (op, imm) with ⟨h1, h2⟩ | ⟨A, c, h1, h2⟩
    · exact ⟨none, 0, by rw [h1, h2]; rfl, by rw [h2]; exact Own.none_, fun k hk => (At.none_ hk).elim⟩
    · exact ⟨A, c, by rw [h1]; rfl, h2.1, h2.2⟩
  have hOAW : ∀ k, At OA k → k < w.heap.size := fun k hk => Hbw.out k (by rw [horl k hk]; simp)
  have hOAo : ¬ At OA a.o := fun h => by have := horl _ h; rw [hor] at this; cases this
  have hOAg : ¬ At OA gb := fun h => by have := horl _ h; rw [hgr] at this; cases this
  have hOAx : ¬ At OA a.x := fun h => by have := horl _ h; rw [hxr] at this; cases this
  have hOLn : (opL G.L (op, imm)).length ≤ 2000 := by
    unfold opL
    rw [List.length_map]
    refine Nat.le_trans (List.length_filter_le _ _) ?_
    rw [List.length_range, Hn.out]; omega
  obtain ⟨ol, HOL⟩ := nm (opL G.L (op, imm))
  rw [HOL.out] at hoval hoown hOLn
  have kcell := Blk.new wE 90 #[.int .i64 op, .int .i64 imm]
  have bF := b5'.alloc (.cells #[.int .i64 op, .int .i64 imm] 90)
  have bxF := bx5'.alloc (.cells #[.int .i64 op, .int .i64 imm] 90)
  have uWF := uWE.alloc (.cells #[.int .i64 op, .int .i64 imm] 90)
  obtain ⟨wF, HF⟩ := nm (wE.alloc (.cells #[.int .i64 op, .int .i64 imm] 90))
  rw [HF.out] at kcell bF bxF uWF ⊢
  have sWF : wE.heap.size < wF.heap.size := kcell.lt
  have p4 : wF.drew.cell? ⟨gb, 4, none⟩ = some (.map (some a.o)) := bF.cell 4
  have pk0 : wF.drew.cell? ⟨wE.heap.size, 0, none⟩ = some (.int .i64 op) := kcell.cell 0
  have pk1 : wF.drew.cell? ⟨wE.heap.size, 1, none⟩ = some (.int .i64 imm) := kcell.cell 1
  have uG := Upd.refl (w := wF) (S := Non) |>.drew.alloc (.cells #[.int .i64 (n : Int)] 3)
  have slG : Sl (wF.drew.alloc (.cells #[.int .i64 (n : Int)] 3)) (· = wF.heap.size) (some ⟨wF.heap.size, 0, none⟩) [.int .i64 (n : Int)] := Sl.new wF.drew 3 [.int .i64 (n : Int)]
  have sG : (wF.drew.alloc (.cells #[.int .i64 (n : Int)] 3)).heap.size = wF.heap.size + 1 := by simp
  obtain ⟨w7, st, hme, hent, hu7⟩ := ((hom.upd uWF (hnr _ (.inl hor))).upd uG (fun f => f)).entry (P := Try.prog) Try.underlying69 KT (z := .slice none 0 0) (zeroInts _) (op, imm)
  rw [hoval] at hme
  unfold encO at hme
  dsimp only at hme
  have ho7 := ((hoown.upd uWF (fun k hk => hnr k (.inr (.inr (.inl ⟨_, horl k hk⟩))))).upd uG (fun _ _ f => f)).upd hu7 (fun k hk e => by rw [e] at hk; exact hOAo hk)
  have sl7 := slG.upd hu7 (fun k _ hk e => by omega)
  have b7 := (bF.upd uG (fun f => f)).upd hu7 (fun e => hog e.symm)
  have bx7 := (bxF.upd uG (fun f => f)).upd hu7 (by omega)
  have k7 := (kcell.upd uG (fun f => f)).upd hu7 (by omega)
  have s7 := hu7.size
  obtain ⟨wG, HWG⟩ := nm (wF.drew.alloc (.cells #[.int .i64 (n : Int)] 3))
  have eG := HWG.out
  rw [HWG.out] at hme uG sG hu7
  clear slG
  have uG' : Upd Non wF.drew wG := by rw [← HWG.out]; exact Upd.refl.alloc _
  refine wp_region_held_drew (S := fun w' => w'.cell? ⟨gb, 4, none⟩ = some (.map (some a.o)) ∧ w'.cell? ⟨wE.heap.size, 0, none⟩ = some (.int .i64 op) ∧ w'.cell? ⟨wE.heap.size, 1, none⟩ = some (.int .i64 imm)) (by kernel_rfl) ⟨p4, pk0, pk1⟩ (fun hHeld => ?_)
  refine wpAnyH_take (i := 0) (v := ?_) rfl (by kernel_rfl) (by kernel_rfl) (by kernel_rfl) (fun _ _ _ h => h) (Or.inl ⟨by rfl, ?_⟩) (by assumption) ?_
  rotate_left
  · intro w hSw; (try dsimp only at hSw); go_simp; try with_reducible rfl
  try simp only [put_z]
  refine wpAnyH_take (i := 1) (v := ?_) rfl (by kernel_rfl) (by kernel_rfl) (by kernel_rfl) (fun _ _ _ h => h) (Or.inl ⟨by rfl, ?_⟩) (by assumption) ?_
  rotate_left
  · intro w hSw; (try dsimp only at hSw); go_simp; try with_reducible rfl
  try simp only [put_z]
  refine wpAnyH_take (i := 2) (v := ?_) rfl (by kernel_rfl) (by kernel_rfl) (by kernel_rfl) (fun _ _ _ h => h) (Or.inl ⟨by rfl, ?_⟩) (by assumption) ?_
  rotate_left
  · intro w hSw; (try dsimp only at hSw); go_simp; try with_reducible rfl
  try simp only [put_z]
  refine wpAnyH_take (i := 3) (v := ?_) rfl (by kernel_rfl) (by kernel_rfl) (by kernel_rfl) (fun _ _ _ h => h) (Or.inl ⟨by rfl, ?_⟩) (by assumption) ?_
  rotate_left
  · intro w hSw; (try dsimp only at hSw); go_simp; try with_reducible rfl
  try simp only [put_z]
  refine wpAnyH_take (i := 4) (v := ?_) rfl (by kernel_rfl) (by kernel_rfl) (by kernel_rfl) (fun _ _ _ h => h) (Or.inl ⟨by rfl, ?_⟩) (by assumption) ?_
  rotate_left
  · intro w hSw; (try dsimp only at hSw); go_simp; try with_reducible rfl
  try simp only [put_z]
  refine wpAnyH_take (i := 5) (v := ?_) rfl (by kernel_rfl) (by kernel_rfl) (by kernel_rfl) (fun _ _ _ h => h) (Or.inl ⟨by rfl, ?_⟩) (by assumption) ?_
  rotate_left
  · intro w hSw; (try dsimp only at hSw); go_simp; try with_reducible rfl
  try simp only [put_z]
  refine wpAnyH_ready (rs := [6]) (by kernel_rfl) (by simp) ?_
  refine AllReadyH.cons rfl (fun K hK => ?_) AllReadyH.nil
  go_simp
  refine hK.out _ _ ?_ (fun hHeld => ?_)
  · exact ⟨cell_upd p4 uG' (fun f => f), cell_upd pk0 uG' (fun f => f), cell_upd pk1 uG' (fun f => f)⟩
  clear hK K
  try simp only [put_z]
  refine wpAnyH_ready (rs := [7]) (by kernel_rfl) (by simp) ?_
  refine AllReadyH.cons rfl (fun K hK => ?_) AllReadyH.nil
  go_simp
  refine hK.out _ _ ?_ (fun hHeld => ?_)
  · exact ⟨b7.cell 4, k7.cell 0, k7.cell 1⟩
  clear hK K
  try simp only [put_z]
  refine wpAnyH_take (i := 8) (v := ?_) rfl (by kernel_rfl) (by kernel_rfl) (by kernel_rfl) (fun _ _ _ h => h) (Or.inl ⟨by rfl, ?_⟩) (by assumption) ?_
  rotate_left
  · intro w hSw; (try dsimp only at hSw); go_simp; try with_reducible rfl
  try simp only [put_z]
  refine wpAnyH_take (i := 10) (v := ?_) rfl (by kernel_rfl) (by kernel_rfl) (by kernel_rfl) (fun _ _ _ h => h) (Or.inl ⟨by rfl, ?_⟩) (by assumption) ?_
  rotate_left
  · intro w hSw; (try dsimp only at hSw); go_simp; try with_reducible rfl
  try simp only [put_z]
  refine wpAnyH_ready (rs := [9]) (by kernel_rfl) (by simp) ?_
  refine AllReadyH.cons rfl (fun K hK => ?_) AllReadyH.nil
  refine step_app rfl rfl T_ints' rfl ho7 rfl sl7 rfl (by simp [Value.oneCell']) (by simp only [maxLen]; omega) (by omega) ?_
  intro A9 c9 w9 ho9 hu9 hat9
  have b9 := b7.upd hu9 hOAg
  have bx9 := bx7.upd hu9 (fun h => by have := hOAW _ h; omega)
  have k9 := k7.upd hu9 (fun h => by have := hOAW _ h; omega)
  obtain ⟨w10, hes, hom10, hu10⟩ := (hent.upd hu9 hOAo).store (P := Try.prog) (t := 69) (.slice A9 (ol.length + 1) c9)
  have b10 := b9.upd hu10 (fun e => hog e.symm)
  have bx10 := bx9.upd hu10 (by omega)
  have k10 := k9.upd hu10 (by have := hu9.size; omega)
  refine hK.out _ _ ?_ (fun hHeld => ?_)
  · exact ⟨b9.cell 4, k9.cell 0, k9.cell 1⟩
  clear hK K
  try simp only [put_z]
  refine wpAnyH_ready (rs := [11]) (by kernel_rfl) (by simp) ?_
  refine AllReadyH.cons rfl (fun K hK => ?_) AllReadyH.nil
  go_simp
  refine hK.out _ _ ?_ (fun hHeld => ?_)
  · exact ⟨b10.cell 4, k10.cell 0, k10.cell 1⟩
  clear hK K
  try simp only [put_z]
  refine wpAnyH_done (by kernel_rfl) ?_ _
  have hk10 := ((((hk1.upd uWF (fun k _ hk => hnr k (.inr (.inr (.inr hk.2))))).upd uG (fun _ _ _ f => f)).upd hu7 (fun k _ hk e => by rw [e, hor] at hk; cases hk.2)).upd hu9 (fun k _ hk h => by have := horl _ h; rw [hk.2] at this; cases this)).upd hu10 (fun k _ hk e => by rw [e, hor] at hk; cases hk.2)
  have hx10 := ((((hxm.upd uWF (hnr _ (.inr (.inl hxr)))).upd uG (fun f => f)).upd hu7 (fun e => hxo e)).upd hu9 hOAx).upd hu10 (fun e => hxo e)
  have C8 := Lib.hid (nodeKey_c w10.drew op imm KA kc kids (fun k => k < w.heap.size ∧ ρ k = .no) (hk10.upd (Upd.refl.drew (S := Non)) (fun _ _ _ f => f)) (by omega))
  have z5 : w10.drew.cell? ⟨gb, 5, none⟩ = some (.map (some a.x)) := b10.cell 5
  have z0 : w10.drew.cell? ⟨w.heap.size, 0, none⟩ = some (.int .i64 op) := bx10.cell 0
  have z1 : w10.drew.cell? ⟨w.heap.size, 1, none⟩ = some (.int .i64 imm) := bx10.cell 1
  have z2 : w10.drew.cell? ⟨w.heap.size, 2, none⟩ = some (.slice KA kids.length kc) := bx10.cell 2
  go_wp2_with fail
  refine wp_region_held_drew (S := fun w' => w'.cell? ⟨gb, 5, none⟩ = some (.map (some a.x)) ∧ w'.cell? ⟨w.heap.size, 0, none⟩ = some (.int .i64 op) ∧ w'.cell? ⟨w.heap.size, 1, none⟩ = some (.int .i64 imm) ∧ w'.cell? ⟨w.heap.size, 2, none⟩ = some (.slice KA kids.length kc)) (by kernel_rfl) ⟨z5, z0, z1, z2⟩ (fun hHeld => ?_)
  refine wpAnyH_take (i := 0) (v := ?_) rfl (by kernel_rfl) (by kernel_rfl) (by kernel_rfl) (fun _ _ _ h => h) (Or.inl ⟨by rfl, ?_⟩) (by assumption) ?_
  rotate_left
  · intro w hSw; (try dsimp only at hSw); go_simp; try with_reducible rfl
  try simp only [put_z]
  refine wpAnyH_take (i := 1) (v := ?_) rfl (by kernel_rfl) (by kernel_rfl) (by kernel_rfl) (fun _ _ _ h => h) (Or.inl ⟨by rfl, ?_⟩) (by assumption) ?_
  rotate_left
  · intro w hSw; (try dsimp only at hSw); go_simp; try with_reducible rfl
  try simp only [put_z]
  refine wpAnyH_take (i := 2) (v := ?_) rfl (by kernel_rfl) (by kernel_rfl) (by kernel_rfl) (fun _ _ _ h => h) (Or.inl ⟨by rfl, ?_⟩) (by assumption) ?_
  rotate_left
  · intro w hSw; (try dsimp only at hSw); go_simp; try with_reducible rfl
  try simp only [put_z]
  refine wpAnyH_take (i := 3) (v := ?_) rfl (by kernel_rfl) (by kernel_rfl) (by kernel_rfl) (fun _ _ _ h => h) (Or.inl ⟨by rfl, ?_⟩) (by assumption) ?_
  rotate_left
  · intro w hSw; (try dsimp only at hSw); go_simp; try with_reducible rfl
  try simp only [put_z]
  refine wpAnyH_take (i := 4) (v := ?_) rfl (by kernel_rfl) (by kernel_rfl) (by kernel_rfl) (fun _ _ _ h => h) (Or.inl ⟨by rfl, ?_⟩) (by assumption) ?_
  rotate_left
  · intro w hSw; (try dsimp only at hSw); go_simp; try with_reducible rfl
  try simp only [put_z]
  refine wpAnyH_take (i := 6) (v := ?_) rfl (by kernel_rfl) (by kernel_rfl) (by kernel_rfl) (fun _ _ _ h => h) (Or.inl ⟨by rfl, ?_⟩) (by assumption) ?_
  rotate_left
  · intro w hSw; (try dsimp only at hSw); go_simp; try with_reducible rfl
  try simp only [put_z]
  refine wpAnyH_ready (rs := [5]) (by kernel_rfl) (by simp) ?_
  refine AllReadyH.cons rfl (fun K hK => ?_) AllReadyH.nil
  go_simp
  refine C8.out.mono ?_
  rintro e w11 ⟨rfl, hu11'⟩
  have hu11 : Upd Non w10 w11 := Upd.refl.drew.then_non hu11'
  have b11 := b10.upd hu11 (fun f => f)
  have bx11 := bx10.upd hu11 (fun f => f)
  obtain ⟨w12, hmu, hx12, hu12⟩ := (hx10.upd hu11 (fun f => f)).store (P := Try.prog) Try.underlying70 Try.underlying9 (keyE op imm kids) (.int .i64 (n : Int))
  have b12 := b11.upd hu12 (fun e => hxg e.symm)
  have bx12 := bx11.upd hu12 (by omega)
  go_wp2_with fail
  refine hK.out _ _ ?_ (fun hHeld => ?_)
  · exact ⟨b11.cell 5, bx11.cell 0, bx11.cell 1, bx11.cell 2⟩
  clear hK K
  try simp only [put_z]
  refine wpAnyH_ready (rs := [7]) (by kernel_rfl) (by simp) ?_
  refine AllReadyH.cons rfl (fun K hK => ?_) AllReadyH.nil
  go_simp
  refine hK.out _ _ ?_ (fun hHeld => ?_)
  · exact ⟨b12.cell 5, bx12.cell 0, bx12.cell 1, bx12.cell 2⟩
  clear hK K
  try simp only [put_z]
  refine wpAnyH_done (by kernel_rfl) ?_ _
  go_wp2_with fail
  go_ret
  refine ⟨rfl, ?_⟩
  exact insert_fin (v0 := (om (op, imm)).getD (.slice none 0 0)) hU hMM.out Hbw.out Hn.out HNM.out HCN.out HX.out HI.out hmSl HMV.out hlo hlc hlr hsr hfr hmr hoK HKn.out hu1 ho2 hu2 HA2.out (by rw [← HB.out]; exact updCell _ _ _ _) ho3 hu3 hat3 uC ho4 hu4 hat4 uD ho5 hu5 hat5 uE HF.out uG hu7 HOL.out horl ho9 hu9 hat9 hor hoe hom10 hu10 hu11 hxr hx12 hu12 b12 rfl
end Go.Proofs.Ytigambcefdeaoaa
