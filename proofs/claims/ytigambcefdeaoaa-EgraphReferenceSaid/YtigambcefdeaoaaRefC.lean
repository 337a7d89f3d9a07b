/-
  EgraphReference, called at two lists of integers and a list of deeds, returns true and turns nothing old.
-/
import Derived.Test.YtigambcefdeaoaaGRA
import Derived.Test.YtigambcefdeaoaaMutC
import Derived.Test.YtigambcefdeaoaaMild
import Derived.Test.YtigambcefdeaoaaRClC
namespace Go.Proofs.Ytigambcefdeaoaa
open Go.RowKit

/-- A graph whose steps have few variables. -/
structure SInv (G : EG) : Prop where
  wf : GWf G
  few : ∀ s ∈ G.T, s.vars.length ≤ 5 ∧ s.imms.length ≤ 5
theorem SInv.uni {G : EG} (h : SInv G) (s : Stp) (hv : s.vars.length ≤ 5) (hm : s.imms.length ≤ 5) : SInv (uniG G s) := by
  refine ⟨uniG_wf h.wf, fun t ht => ?_⟩
  unfold uniG at ht
  split at ht
  · rcases List.mem_append.1 ht with q | q
    · exact h.few t q
    · rw [List.mem_singleton.1 q]; exact ⟨hv, hm⟩
  · exact h.few t ht
theorem SInv.merge0 {G : EG} (h : SInv G) {i j : Nat} (hw : GWf (G.merge (cgStep i j))) : SInv (G.merge (cgStep i j)) := by
  refine ⟨hw, fun t ht => ?_⟩
  rcases List.mem_append.1 ht with q | q
  · exact h.few t q
  · rw [List.mem_singleton.1 q]; simp [cgStep]
theorem SInv.reb {G G' : EG} {n : Nat} (hr : Reb G n G') (h : SInv G) : SInv G' := by
  induction hr with
  | done _ => exact h
  | step e _ ih => exact ih (h.merge0 (h.wf.rebMerge e).1)
theorem SInv.add {G : EG} (h : SInv G) {nd : Nd} (hok : NdOk nd) : SInv (addG G nd) := by
  refine ⟨addG_wf h.wf hok, fun t ht => ?_⟩
  have hT : ∀ t ∈ (addG G nd).T, t ∈ G.T ∨ ∃ i j, t = cgStep i j := by
    unfold addG
    split
    · exact fun t ht => .inl ht
    · split
      · exact fun t ht => .inl ht
      · split
        · exact fun t ht => .inl ht
        · split
          · exact fun t ht => .inl ht
          · intro t ht
            rcases List.mem_append.1 ht with q | q
            · exact .inl q
            · exact .inr ⟨_, _, List.mem_singleton.1 q⟩
  rcases hT t ht with q | ⟨i, j, rfl⟩
  · exact h.few t q
  · simp [cgStep]
theorem SInv.new {L : List Nd} (h : GWf (newG L)) : SInv (newG L) := ⟨h, fun t ht => by simp [newG] at ht⟩

theorem grAddNew1_c (w0 w : World) (P : Nat → Prop) (gb rb : Nat) (G1 G2 : EG) (h : GR P w0 gb G1 rb G2) (u : Upd Non w0 w) (hg : GWf G1) (hT : G1.T.length ≤ 900000000) (nd : Nd) (KA : Option Addr) (kc : Nat) (hk : Own w 3 1 KA nd.kids.length kc (icells nd.kids)) (hn : ∀ k, At KA k → w0.heap.size ≤ k) (hok : NdOk nd) (hkl : nd.kids.length ≤ 100000000000) :
    Calls Try.prog 22 #[gp gb, .agg #[.int .i64 nd.op, .int .i64 nd.imm, .slice KA nd.kids.length kc]] w fun e w' => e = .returned (addRet G1 nd) ∧ GR P w' gb (addG G1 nd) rb G2 ∧ Upd (Out P) w w' := by
  obtain ⟨op, imm, kids⟩ := nd
  have hf := h.grow u
  have hi : Ints w (fun k => P k ∨ (w0.heap.size ≤ k ∧ k < w.heap.size)) KA kids := hk.ints.mono (fun k hk h => .inr ⟨hn k h, hk⟩)
  exact (grAdd1_c w _ gb rb G1 G2 hf hg hT op imm kids KA kc hi hk.le hok hkl).mono fun e w' ⟨he, hf', hu⟩ => ⟨he, hf'.mono (fun k hk => .inl hk), hu.mono (fun k _ hk hp => hk (.inl hp))⟩
theorem grAddNew2_c (w0 w : World) (P : Nat → Prop) (gb rb : Nat) (G1 G2 : EG) (h : GR P w0 gb G1 rb G2) (u : Upd Non w0 w) (hg : GWf G2) (hT : G2.T.length ≤ 900000000) (nd : Nd) (KA : Option Addr) (kc : Nat) (hk : Own w 3 1 KA nd.kids.length kc (icells nd.kids)) (hn : ∀ k, At KA k → w0.heap.size ≤ k) (hok : NdOk nd) (hkl : nd.kids.length ≤ 100000000000) :
    Calls Try.prog 28 #[gp rb, .agg #[.int .i64 nd.op, .int .i64 nd.imm, .slice KA nd.kids.length kc]] w fun e w' => e = .returned (addRet G2 nd) ∧ GR P w' gb G1 rb (addG G2 nd) ∧ Upd (Out P) w w' := by
  obtain ⟨op, imm, kids⟩ := nd
  have hf := h.grow u
  have hi : Ints w (fun k => P k ∨ (w0.heap.size ≤ k ∧ k < w.heap.size)) KA kids := hk.ints.mono (fun k hk h => .inr ⟨hn k h, hk⟩)
  exact (grAdd2_c w _ gb rb G1 G2 hf hg hT op imm kids KA kc hi hok hkl).mono fun e w' ⟨he, hf', hu⟩ => ⟨he, hf'.mono (fun k hk => .inl hk), hu.mono (fun k _ hk hp => hk (.inl hp))⟩
theorem GR.c0 {P : Nat → Prop} {w : World} {gb rb : Nat} {G1 G2 : EG} (h : GR P w gb G1 rb G2) : ∃ A c, w.cell? ⟨rb, 0, none⟩ = some (.slice A G2.L.length c) := by
  obtain ⟨_, _, _, a2, _, h2, _⟩ := h
  exact ⟨_, _, h2.c0⟩

open Classical in
noncomputable def newCode (L : List Nd) : Int := if allSorted L then 4 else 1
theorem new_good {w : World} {L : List Nd} {e : Ending} {w' : World} (h : NewPost w L e w') (h1 : L.length ≤ 2000) (h2 : allSorted L) (h3 : nodup L) : ∃ gb ρ a, e = .returned (.tuple #[gp gb, .int .i64 0]) ∧ GM w' ρ gb a (newG L) ∧ ∀ k, ρ k ≠ .no → w.heap.size ≤ k := by
  rcases h with ⟨q, _⟩ | ⟨_, q, _⟩ | ⟨_, _, q, _⟩ | ⟨_, _, _, q⟩
  · omega
  · exact absurd h2 q
  · exact absurd h3 q
  · exact q
theorem new_bad {w : World} {L : List Nd} {e : Ending} {w' : World} (h : NewPost w L e w') (h1 : L.length ≤ 2000) (h2 : ¬ (allSorted L ∧ nodup L)) : e = .returned (.tuple #[.pointer none, .int .i64 (newCode L)]) := by
  unfold newCode
  rcases h with ⟨q, _⟩ | ⟨_, q, e⟩ | ⟨_, p, q, e⟩ | ⟨_, p, q, _⟩
  · omega
  · rw [if_neg q]; exact e
  · rw [if_pos p]; exact e
  · exact absurd ⟨p, q⟩ h2
theorem rnew_good {F : Nat → Prop} {w : World} {L : List Nd} {e : Ending} {w' : World} (h : RNewPost F w L e w') (h1 : L.length ≤ 2000) (h2 : allSorted L) (h3 : nodup L) : ∃ rb ρ a, e = .returned (.tuple #[gp rb, .int .i64 0]) ∧ RM w' ρ rb a (newG L) ∧ ∀ k, ρ k ≠ .no → w.heap.size ≤ k ∨ (F k ∧ ρ k = .kids) := by
  rcases h with ⟨q, _⟩ | ⟨_, q, _⟩ | ⟨_, _, q, _⟩ | ⟨_, _, _, q⟩
  · omega
  · exact absurd h2 q
  · exact absurd h3 q
  · exact q
theorem rnew_bad {F : Nat → Prop} {w : World} {L : List Nd} {e : Ending} {w' : World} (h : RNewPost F w L e w') (h1 : L.length ≤ 2000) (h2 : ¬ (allSorted L ∧ nodup L)) : e = .returned (.tuple #[.pointer none, .int .i64 (newCode L)]) := by
  unfold newCode
  rcases h with ⟨q, _⟩ | ⟨_, q, e⟩ | ⟨_, p, q, e⟩ | ⟨_, p, q, _⟩
  · omega
  · rw [if_neg q]; exact e
  · rw [if_pos p]; exact e
  · exact absurd ⟨p, q⟩ h2

theorem GR.new {w w2 w3 : World} {B gb rb : Nat} {L : List Nd} {ρ1 ρ2 : Nat → Role} {a1 : GA} {a2 : RA} (h1 : GM w2 ρ1 gb a1 (newG L)) (k1 : ∀ k, ρ1 k ≠ .no → w.heap.size ≤ k) (u : Upd Non w2 w3) (h2 : RM w3 ρ2 rb a2 (newG L)) (k2 : ∀ k, ρ2 k ≠ .no → w2.heap.size ≤ k ∨ (k < w.heap.size ∧ ρ2 k = .kids)) (hw : w.heap.size ≤ w2.heap.size) (hB : B ≤ w.heap.size) :
    GR (· < B) w3 gb (newG L) rb (newG L) := by
  have hs := u.size
  refine ⟨ρ1, a1, ρ2, a2, h1.non u, h2, fun k hk => Classical.byContradiction fun hne => ?_, fun k hk => ⟨by have : k < B := hk; omega, Classical.byContradiction fun hne => by have := k1 k hne; have : k < B := hk; omega, ?_⟩⟩
  · have := h1.bnd k hk
    have := k1 k hk
    rcases k2 k hne with q | q
    · omega
    · omega
  · by_cases q : ρ2 k = .no
    · exact .inl q
    · rcases k2 k q with z | z
      · have : k < B := hk; omega
      · exact .inr z.2

set_option maxRecDepth 100000 in
set_option maxHeartbeats 8000000 in
theorem eRef_c (w : World) (F : Nat → Prop) (LA DA : Option Addr) (lc dc : Nat) (l : List Int) (how at_ : Int) (ds : List Dd) (hl : Ints w F LA l) (hd : DeedsV w F DA ds) (hdo : ∀ d ∈ ds, DdOk d) (hli : ∀ x ∈ l, I64 x) (hh : I64 how) (ha : I64 at_) (hll : l.length ≤ 1000000000000000) (hdl : ds.length ≤ 1000000000000000) :
    Calls Try.prog 7 #[.slice LA l.length lc, .int .i64 how, .int .i64 at_, .slice DA ds.length dc] w fun e w' => e = .returned (.bool true) ∧ Upd Non w w' := by
  have C1 := Lib.hid (nodes_c w F LA lc l false hl hli hll)
  have hlen := nodesF_len false l
  have hsm := nodesTo_small false l 14
  have hok := (nodesF_good false l hli).ok
  obtain ⟨L0, HL⟩ := nm (nodesF false l)
  rw [HL.out] at C1 hlen hok
  rw [show nodesTo false l 14 = L0 from HL.out] at hsm
  have HOK := Lib.hid hok
  have HSM := Lib.hid hsm
  have HDO := Lib.hid hdo
  have hd := hd.mono (G := (· < w.heap.size)) (fun k hk _ => hk)
  clear hok hsm hli hdo
  have m1 := Int.emod_nonneg how (show (3 : Int) ≠ 0 by omega)
  have m2 := Int.emod_lt_of_pos how (show (0 : Int) < 3 by omega)
  have q3 : wrap64 (how.tdiv 3) = how.tdiv 3 := wrap64_of (hh.tdiv 3 (by omega))
  have q3' : IntKind.i64.wrap (how.tdiv 3) = how.tdiv 3 := i64w_of (hh.tdiv 3 (by omega))
  have hq3 : I64 (how.tdiv 3) := hh.tdiv 3 (by omega)
  go_enter Try.func7, Try.ntmps7
  go_wp2_with fail
  refine C1.out.mono ?_
  rintro e w1 ⟨A, c, rfl, hno, hA, hu1⟩
  have hV := hno.view (F := fun _ => True) (fun _ _ => trivial) (fun _ _ _ => trivial)
  obtain ⟨_, cs, ho, _⟩ := hno
  have hcap := ho.le
  have C2 := Lib.hid (pick_c how 3 w1 (by omega) (by omega))
  obtain ⟨y, Hy⟩ := nm (how % 3)
  rw [Hy.out] at C2 m1 m2
  clear ho C1 hA
  go_wp2_with fail
  refine C2.out.mono ?_
  rintro e w2 ⟨rfl, rfl⟩
  go_upto_if 30 with fail
  go_cut [9] (fun s9 wx => ∃ (A : Option Addr) (c : Nat) (L : List Nd), s9 = .slice A (List.length L) c ∧ NodesV wx (fun _ => True) A L ∧ L.length ≤ 18 ∧ L.length ≤ c ∧ Hid (∀ nd ∈ L, NdS nd) ∧ Upd Non w wx)
  case first =>
    by_cases hy : y = 0
    · subst hy
      have C3 := Lib.hid (mutate_c w1 _ A c L0 (how.tdiv 3) at_ hV (by omega) (fun nd h => by have := HSM.out nd h; omega) HOK.out hq3 ha)
      go_wp2_with fail
      refine C3.out.mono ?_
      rintro e w3 ⟨A3, c3, L3, rfl, hV3, hl3, hs3, hc3, hu3⟩
      go_wp2_with fail
      go_meet
      exact ⟨A3, c3, L3, rfl, hV3, by omega, hc3, hs3, hu1.then_non hu3⟩
    · have hb : (y == 0) = false := by simpa using hy
      go_wp2_with fail
      go_meet
      exact ⟨A, c, L0, rfl, hV, by omega, hcap, fun nd h => ⟨(HOK.out nd h).1, (HOK.out nd h).2.1, by have := HSM.out nd h; omega⟩, hu1⟩
  case rest =>
  obtain ⟨A, c, L, rfl, hV, hL, hcap, HS, hux⟩ := hcut
  have hux0 := hux.size
  have C4 := Lib.hid (gNew_c wc (· < wc.heap.size) A c L (hV.mono (fun k hk _ => hk)) hcap (by omega) (fun nd h => (HS.out nd h).ok) (fun nd h => by have := (HS.out nd h).2.2; omega))
  have C5 := Lib.hid (fun w2 (u : Upd Non wc w2) => rNew_c w2 (· < wc.heap.size) A c L ((hV.mono (fun k hk _ => hk)).upd u (fun _ _ _ f => f)) (by omega) (fun nd h => by have := (HS.out nd h).2.2; omega))
  by_cases hgood : allSorted L ∧ nodup L
  · obtain ⟨hs1, hs2⟩ := hgood
    have HG1 := Lib.hid hs1
    have HG2 := Lib.hid hs2
    clear hs1 hs2 m1 m2 C2 q3 q3' hq3
    go_wp2_with fail
    refine C4.out.mono ?_
    rintro e w2 ⟨hp, hu2⟩
    obtain ⟨gb, ρ1, a1, rfl, hM1, hk1⟩ := new_good hp (by omega) HG1.out HG2.out
    have C6 := Lib.hid (C5.out w2 hu2)
    unfold gp
    clear hp C5 C4
    go_wp2_with fail
    refine C6.out.mono ?_
    rintro e w3 ⟨hp, hu3⟩
    obtain ⟨rb, ρ2, a2, rfl, hM2, hk2⟩ := rnew_good hp (by omega) HG1.out HG2.out
    have hgr := GR.new (w := wc) (B := w.heap.size) hM1 hk1 hu3 hM2 (fun k hk => by have h := hk2 k hk; exact h) hu2.size hux0
    have HGW : Hid (SInv (newG L)) := SInv.new (newG_wf (by omega) HG1.out (fun nd h => (HS.out nd h).ok) HG2.out)
    have hU3 := (hux.then_non hu2).then_non hu3
    unfold gp
    clear hp C6 hM1 hM2 hk1 hk2 hu2 hu3 hux
    go_wp2_with fail
    have hT0 : (newG L).T.length = 0 := rfl
    have hL0 : (newG L).L.length = L.length := rfl
    go_loopg [14, 15, 16, 17, 18, 19, 20, 21, 22, 23, 24, 25] 12 (fun g i _ _ _ _ _ _ _ _ _ _ _ wr => ∃ (k : Nat) (G : EG), Hid (g = 12 - k) ∧ k ≤ 12 ∧ i = .int .i64 k ∧ GR (· < w.heap.size) wr gb G rb G ∧ Hid (SInv G) ∧ G.L.length ≤ 18 + k ∧ G.T.length ≤ 2001 * k ∧ Upd Non w wr)
    case atStart => exact ⟨0, newG L, rfl, by omega, rfl, hgr, HGW, by omega, by omega, hU3⟩
    case round =>
      obtain ⟨k, G, Hg, hk, rfl, hF, HI, hL1, hT, hu⟩ := hrel
      by_cases hlt : k < ds.length ∧ k < 12
      · obtain ⟨hk1, hk2⟩ := hlt
        obtain ⟨db, dof, rfl, hdw, hdb, c0, c1, c2, c3, c4, c5, c6, VA, vc, MA, mc, c7, c8, hvc, hmc, hiv, him⟩ := (hd.upd hu (fun _ _ _ f => f)).at_ hk1
        have hdk := HDO.out _ (List.getElem_mem hk1)
        generalize ds[k] = d at *
        have i0 : (0 : Int) ≤ (k : Int) := by omega
        have i1 : (k : Int) < (ds.length : Int) := by omega
        obtain ⟨W, HWq⟩ := nm (wr.alloc (.cells #[.int .i64 d.what, .int .i64 d.a, .int .i64 d.b, .int .i64 d.op, .int .i64 d.s.l, .int .i64 d.s.r, .int .i64 d.s.why, .slice VA d.s.vars.length vc, .slice MA d.s.imms.length mc] 46))
        have uA : Upd Non wr W := by rw [← HWq.out]; exact Upd.refl.alloc _
        have bd : Blk W wr.heap.size 46 #[.int .i64 d.what, .int .i64 d.a, .int .i64 d.b, .int .i64 d.op, .int .i64 d.s.l, .int .i64 d.s.r, .int .i64 d.s.why, .slice VA d.s.vars.length vc, .slice MA d.s.imms.length mc] := by rw [← HWq.out]; exact Blk.new _ _ _
        have hFW := hF.grow uA
        have hUW := hu.then_non uA
        have hiv := hiv.upd uA (fun _ _ _ f => f)
        have him := him.upd uA (fun _ _ _ f => f)
        have hbW := bd.lt
        obtain ⟨RA, rc, cr0⟩ := hFW.c0
        have hrW := hFW.lt2
        have e0 := bd.cell 0
        have HD := Lib.hid hdk
        have CP := Lib.hid (fun (z m : Int) (W : World) (h : 0 < m) (h2 : m ≤ 4611686018427387904) => pick_c z m W h h2)
        have p1 := Int.emod_nonneg d.what (show (4 : Int) ≠ 0 by omega)
        have p2 := Int.emod_lt_of_pos d.what (show (0 : Int) < 4 by omega)
        have C4 := Lib.hid (CP.out d.what 4 W (by omega) (by omega))
        obtain ⟨p4, Hp4⟩ := nm (d.what % 4)
        rw [Hp4.out] at C4 p1 p2
        clear hdk hF
        have hF := hFW
        clear hFW
        have eW := HWq.out
        go_wp2_with fail
        refine C4.out.mono ?_
        rintro e w5 ⟨rfl, rfl⟩
        clear c0 c1 c2 c3 c4 c5 c6 c7 c8
        have fin : ∀ (G' : EG) (w9 : World), SInv G' → G'.L.length ≤ G.L.length + 1 → G'.T.length ≤ G.T.length + 2001 → GR (· < w.heap.size) w9 gb G' rb G' → Upd Non w w9 → ∃ (k' : Nat) (G2 : EG), Hid (12 - (k + 1) = 12 - k') ∧ k' ≤ 12 ∧ (Value.int .i64 ((k : Int) + 1)) = .int .i64 (k' : Int) ∧ GR (· < w.heap.size) w9 gb G2 rb G2 ∧ Hid (SInv G2) ∧ G2.L.length ≤ 18 + k' ∧ G2.T.length ≤ 2001 * k' ∧ Upd Non w w9 := fun G' w9 h1 h2 h3 h4 h5 => ⟨k + 1, G', rfl, by omega, by simp, h4, h1, by omega, by omega, h5⟩
        have hp : p4 = 0 ∨ p4 = 1 ∨ p4 = 2 ∨ p4 = 3 := by omega
        clear p1 p2 C4
        by_cases hp0 : p4 = 0
        · subst hp0
          have e1 := bd.cell 1
          have e2 := bd.cell 2
          have e3 := bd.cell 3
          have e4 := bd.cell 4
          have e5 := bd.cell 5
          have e6 := bd.cell 6
          have e7 := bd.cell 7
          have e8 := bd.cell 8
          have C5 := Lib.hid (fun W => deedNode_c W d VA MA vc mc G.L.length (by omega) HD.out)
          have hok5 := dNode_ok d (G.L.length : Int)
          have hkl5 : (dNode d (G.L.length : Int)).kids.length ≤ 100000000000 := by have := dArity d; rw [dNode_kids, dKids_len]; omega
          unfold deedVal at C5
          obtain ⟨nd, Hnd⟩ := nm (dNode d (G.L.length : Int))
          rw [Hnd.out] at C5 hok5 hkl5
          have HI6 := Lib.hid (HI.out.add hok5)
          have hT6 := addG_T G nd
          obtain ⟨l6, l7⟩ := addG_L G nd
          obtain ⟨x1, Hx1⟩ := nm (addR G nd).1
          obtain ⟨x2, Hx2⟩ := nm (addR G nd).2
          have t1 : (x1 != x1) = false := by simp
          have t2 : (x2 != x2) = false := by simp
          obtain ⟨G6, HG6⟩ := nm (addG G nd)
          rw [HG6.out] at HI6 hT6 l6 l7
          have hnb : ∀ k, wr.heap.size ≤ k → k < W.heap.size → ¬ Out (fun k => k < w.heap.size ∨ (wr.heap.size ≤ k ∧ k < W.heap.size)) k := fun k q1 q2 h => h (.inr ⟨q1, q2⟩)
          have hnb := hnb _ (Nat.le_refl _) hbW
          go_wp2_with fail
          refine (C5.out W).mono ?_
          rintro e w5 ⟨KB, kd, rfl, hoK, hKn, hu5⟩
          have C6 := Lib.hid (grAddNew1_c W w5 _ gb rb G G hF hu5 HI.out.wf (by omega) nd KB kd hoK hKn hok5 hkl5)
          unfold gp addRet at C6
          rw [Hx1.out, Hx2.out, HG6.out] at C6
          clear hoK hKn
          go_wp2_with fail
          refine C6.out.mono ?_
          rintro e w6 ⟨rfl, hF6, hu6⟩
          have b6 := (bd.upd hu5 (fun f => f)).upd hu6 hnb
          have hU6 := (hUW.then_non hu5).out_trans hu6 (fun i hi => .inl hi)
          have e0 := b6.cell 0
          have e1 := b6.cell 1
          have e2 := b6.cell 2
          have e3 := b6.cell 3
          have e4 := b6.cell 4
          have e5 := b6.cell 5
          have e6 := b6.cell 6
          have e7 := b6.cell 7
          have e8 := b6.cell 8
          clear C6
          go_wp2_with fail
          refine (C5.out w6).mono ?_
          rintro e w7 ⟨KB, kd, rfl, hoK, hKn, hu7⟩
          have C8 := Lib.hid (grAddNew2_c w6 w7 _ gb rb G6 G hF6 hu7 HI.out.wf (by omega) nd KB kd hoK hKn hok5 hkl5)
          unfold gp addRet at C8
          rw [Hx1.out, Hx2.out, HG6.out] at C8
          clear hoK hKn C5
          go_wp2_with fail
          refine C8.out.mono ?_
          rintro e w8 ⟨rfl, hF8, hu8⟩
          have hU8 := (hU6.then_non hu7).out_trans hu8 (fun i hi => .inl hi)
          have C9 := Lib.hid (agrees_c w8 _ gb rb G6 hF8 HI6.out.wf (by omega) (fun s hs => by have := HI6.out.few s hs; omega))
          unfold gp at C9
          clear C8
          go_wp2_with fail
          refine C9.out.mono ?_
          rintro e w9 ⟨rfl, hu9⟩
          have hF9 : GR (· < w.heap.size) w9 gb G6 rb G6 := (hF8.non hu9).mono (fun k hk => .inl hk)
          go_wp2_with fail
          go_roundg (12 - (k + 1))
          case measure => rw [Hg.out]; omega
          case rel => exact fin G6 w9 HI6.out (by omega) (by omega) hF9 (hU8.then_non hu9)
        · have hb0 : (p4 == 0) = false := by rw [beq_eq_false_iff_ne]; exact hp0
          by_cases hp1 : p4 = 1
          · subst hp1
            have C5 := Lib.hid (grRebuild1_c W _ gb rb G G hF HI.out.wf (by omega))
            unfold gp at C5
            go_wp2_with fail
            refine C5.out.mono ?_
            rintro e w6 ⟨n1, G1, hr1, hn1, rfl, hF6, hu6⟩
            have HR1 := Lib.hid hr1
            have C6 := Lib.hid (grRebuild2_c w6 _ gb rb G1 G hF6 HI.out.wf (by omega))
            have hU6 := hUW.out_trans hu6 (fun i hi => .inl hi)
            unfold gp at C6
            clear C5 hr1
            go_wp2_with fail
            refine C6.out.mono ?_
            rintro e w7 ⟨n2, G2, hr2, hn2, rfl, hF7, hu7⟩
            obtain ⟨rfl, rfl⟩ := HR1.out.fun_ hr2
            have hU7 := hU6.out_trans hu7 (fun i hi => .inl hi)
            have HI7 := Lib.hid (HI.out.reb HR1.out)
            have l7 := HR1.out.L_
            have hT7 := HR1.out.T_
            have l8 : G1.L.length = G.L.length := by rw [l7]
            have t1 : ((n1 : Int) != (n1 : Int)) = false := by simp
            have C9 := Lib.hid (agrees_c w7 _ gb rb G1 hF7 HI7.out.wf (by omega) (fun s hs => by have := HI7.out.few s hs; omega))
            unfold gp at C9
            clear C6 hr2 l7
            go_wp2_with fail
            refine C9.out.mono ?_
            rintro e w9 ⟨rfl, hu9⟩
            have hF9 : GR (· < w.heap.size) w9 gb G1 rb G1 := (hF7.non hu9).mono (fun k hk => .inl hk)
            go_wp2_with fail
            go_roundg (12 - (k + 1))
            case measure => rw [Hg.out]; omega
            case rel => exact fin G1 w9 HI7.out (by omega) (by omega) hF9 (hU7.then_non hu9)
          · have hb1 : (p4 == 1) = false := by rw [beq_eq_false_iff_ne]; exact hp1
            have e1 := bd.cell 1
            have e2 := bd.cell 2
            have e4 := bd.cell 4
            have e5 := bd.cell 5
            have e6 := bd.cell 6
            have e7 := bd.cell 7
            have e8 := bd.cell 8
            obtain ⟨W1, HW1⟩ := nm (W.alloc (.cells #[.int .i64 d.s.l, .int .i64 d.s.r, .int .i64 d.s.why, .slice VA d.s.vars.length vc, .slice MA d.s.imms.length mc] 34))
            have eW1 := HW1.out
            have u1 : Upd Non W W1 := by rw [← HW1.out]; exact Upd.refl.alloc _
            have bs : Blk W1 W.heap.size 34 #[.int .i64 d.s.l, .int .i64 d.s.r, .int .i64 d.s.why, .slice VA d.s.vars.length vc, .slice MA d.s.imms.length mc] := by rw [← HW1.out]; exact Blk.new _ _ _
            clear hp hp0 hp1
            go_wp2_with fail
            obtain ⟨wD, HwD⟩ := nm W1.drew
            have uD : Upd Non W1 wD := by rw [← HwD.out]; exact Upd.refl.drew
            have bs1 := bs.upd uD (fun f => f)
            have bd1 := (bd.upd u1 (fun f => f)).upd uD (fun f => f)
            have k0 := bs1.cell 0
            have k1 := bs1.cell 1
            have f0 := bs1.frozen 0
            have f1 := bs1.frozen 1
            have d1 : wD.cell? ⟨wr.heap.size, 1, none⟩ = some (.int .i64 d.a) := bd1.cell 1
            have d2 : wD.cell? ⟨wr.heap.size, 2, none⟩ = some (.int .i64 d.b) := bd1.cell 2
            have z1 := Int.emod_nonneg d.a (show ((G.L.length : Int) + 2) ≠ 0 by omega)
            have z2 := Int.emod_lt_of_pos d.a (show (0 : Int) < (G.L.length : Int) + 2 by omega)
            have z3 := Int.emod_nonneg d.b (show ((G.L.length : Int) + 2) ≠ 0 by omega)
            have z4 := Int.emod_lt_of_pos d.b (show (0 : Int) < (G.L.length : Int) + 2 by omega)
            obtain ⟨a5, Ha5⟩ := nm (d.a % ((G.L.length : Int) + 2))
            obtain ⟨b5, Hb5⟩ := nm (d.b % ((G.L.length : Int) + 2))
            rw [Ha5.out] at z1 z2
            rw [Hb5.out] at z3 z4
            have s1 : IntKind.i64.wrap (a5 - 1) = a5 - 1 := i64w_of (by unfold I64; omega)
            have s3 : IntKind.i64.wrap (b5 - 1) = b5 - 1 := i64w_of (by unfold I64; omega)
            have s2 : IntKind.i64.wrap ((G.L.length : Int) + 2) = (G.L.length : Int) + 2 := i64w_of (by unfold I64; omega)
            refine wp_region_held_drew (S := fun w' => w'.cell? ⟨wr.heap.size, 1, none⟩ = some (.int .i64 d.a) ∧ w'.cell? ⟨wr.heap.size, 2, none⟩ = some (.int .i64 d.b)) (by kernel_rfl) (by rw [HwD.out]; exact ⟨d1, d2⟩) (fun hHeld => ?_)
            rw [HwD.out] at hHeld ⊢
            refine wpAnyH_take (i := 0) (v := ?_) rfl (by kernel_rfl) (by kernel_rfl) (by kernel_rfl) (fun _ _ _ h => h) (Or.inl ⟨by rfl, ?_⟩) (by assumption) ?_
            rotate_left
            · intro w hSw; (try dsimp only at hSw); go_simp; try with_reducible rfl
            try simp only [put_y]
            try simp only [Act.put]
            try simp only [put_z]
            refine wpAnyH_take (i := 1) (v := ?_) rfl (by kernel_rfl) (by kernel_rfl) (by kernel_rfl) (fun _ _ _ h => h) (Or.inl ⟨by rfl, ?_⟩) (by assumption) ?_
            rotate_left
            · intro w hSw; (try dsimp only at hSw); go_simp; try with_reducible rfl
            try simp only [put_y]
            try simp only [Act.put]
            try simp only [put_z]
            refine wpAnyH_take (i := 2) (v := ?_) rfl (by kernel_rfl) (by kernel_rfl) (by kernel_rfl) (fun _ _ _ h => h) (Or.inl ⟨by rfl, ?_⟩) (by assumption) ?_
            rotate_left
            · intro w hSw; (try dsimp only at hSw); go_simp; try with_reducible rfl
            try simp only [put_y]
            try simp only [Act.put]
            try simp only [put_z]
            refine wpAnyH_take (i := 3) (v := ?_) rfl (by kernel_rfl) (by kernel_rfl) (by kernel_rfl) (fun _ _ _ h => h) (Or.inl ⟨by rfl, ?_⟩) (by assumption) ?_
            rotate_left
            · intro w hSw; (try dsimp only at hSw); go_simp; try with_reducible rfl
            try simp only [put_y]
            try simp only [Act.put]
            try simp only [put_z]
            refine wpAnyH_takeC (i := 4) (v := ?v1) rfl (by kernel_rfl) (by kernel_rfl) (by kernel_rfl) (fun _ _ _ h => h) ⟨by rfl, ?f1, ?a1, ?r1, ?c1⟩ (by assumption) ?m1
            case r1 => intro w; go_simp; constructor <;> with_reducible rfl
            case c1 => intro W hSw; refine (CP.out d.a ((G.L.length : Int) + 2) W (by omega) (by omega)).mono ?_; rintro e w' ⟨rfl, rfl⟩; constructor <;> with_reducible rfl
            try simp only [put_y]
            try simp only [Act.put]
            try simp only [put_z]
            rw [Ha5.out]
            refine wpAnyH_take (i := 5) (v := ?_) rfl (by kernel_rfl) (by kernel_rfl) (by kernel_rfl) (fun _ _ _ h => h) (Or.inl ⟨by rfl, ?_⟩) (by assumption) ?_
            rotate_left
            · intro w hSw; (try dsimp only at hSw); go_simp; try with_reducible rfl
            try simp only [put_y]
            try simp only [Act.put]
            try simp only [put_z]
            refine wpAnyH_take (i := 6) (v := ?_) rfl (by kernel_rfl) (by kernel_rfl) (by kernel_rfl) (fun _ _ _ h => h) (Or.inl ⟨by rfl, ?_⟩) (by assumption) ?_
            rotate_left
            · intro w hSw; (try dsimp only at hSw); go_simp; try with_reducible rfl
            try simp only [put_y]
            try simp only [Act.put]
            try simp only [put_z]
            refine wpAnyH_take (i := 7) (v := ?_) rfl (by kernel_rfl) (by kernel_rfl) (by kernel_rfl) (fun _ _ _ h => h) (Or.inl ⟨by rfl, ?_⟩) (by assumption) ?_
            rotate_left
            · intro w hSw; (try dsimp only at hSw); go_simp; try with_reducible rfl
            try simp only [put_y]
            try simp only [Act.put]
            try simp only [put_z]
            refine wpAnyH_take (i := 8) (v := ?_) rfl (by kernel_rfl) (by kernel_rfl) (by kernel_rfl) (fun _ _ _ h => h) (Or.inl ⟨by rfl, ?_⟩) (by assumption) ?_
            rotate_left
            · intro w hSw; (try dsimp only at hSw); go_simp; try with_reducible rfl
            try simp only [put_y]
            try simp only [Act.put]
            try simp only [put_z]
            refine wpAnyH_take (i := 9) (v := ?_) rfl (by kernel_rfl) (by kernel_rfl) (by kernel_rfl) (fun _ _ _ h => h) (Or.inl ⟨by rfl, ?_⟩) (by assumption) ?_
            rotate_left
            · intro w hSw; (try dsimp only at hSw); go_simp; try with_reducible rfl
            try simp only [put_y]
            try simp only [Act.put]
            try simp only [put_z]
            refine wpAnyH_takeC (i := 10) (v := ?v2) rfl (by kernel_rfl) (by kernel_rfl) (by kernel_rfl) (fun _ _ _ h => h) ⟨by rfl, ?f2, ?a2, ?r2, ?c2⟩ (by assumption) ?m2
            case r2 => intro w; go_simp; constructor <;> with_reducible rfl
            case c2 => intro W hSw; refine (CP.out d.b ((G.L.length : Int) + 2) W (by omega) (by omega)).mono ?_; rintro e w' ⟨rfl, rfl⟩; constructor <;> with_reducible rfl
            try simp only [put_y]
            try simp only [Act.put]
            try simp only [put_z]
            rw [Hb5.out]
            refine wpAnyH_take (i := 11) (v := ?_) rfl (by kernel_rfl) (by kernel_rfl) (by kernel_rfl) (fun _ _ _ h => h) (Or.inl ⟨by rfl, ?_⟩) (by assumption) ?_
            rotate_left
            · intro w hSw; (try dsimp only at hSw); go_simp; try with_reducible rfl
            try simp only [put_y]
            try simp only [Act.put]
            try simp only [put_z]
            have hWb : wr.heap.size ≠ W.heap.size := by omega
            refine wpAnyH_take (i := 12) (v := ?_) rfl (by kernel_rfl) (by kernel_rfl) (by kernel_rfl) (fun _ _ _ h => h) (Or.inl ⟨by rfl, ?_⟩) (by assumption) ?_
            rotate_left
            · intro w hSw; (try dsimp only at hSw); go_simp; try with_reducible rfl
            try simp only [put_y]
            try simp only [Act.put]
            try simp only [put_z]
            refine wpAnyH_ready (rs := [13]) (by kernel_rfl) (by simp) ?_
            refine AllReadyH.cons rfl (fun K hK => ?_) AllReadyH.nil
            go_simp
            have v1 := updCell wD W.heap.size 0 (.int .i64 (a5 - 1))
            have bs2 := bs1.set_ 0 (.int .i64 (a5 - 1))
            have k1' := bs2.cell 1
            have f1' := bs2.frozen 1
            refine hK.out _ _ ?_ (fun hHeld => ?_)
            · exact ⟨cell_upd d1 v1 hWb, cell_upd d2 v1 hWb⟩
            clear hK K
            try simp only [put_y]
            try simp only [Act.put]
            try simp only [put_z]
            refine wpAnyH_take (i := 14) (v := ?_) rfl (by kernel_rfl) (by kernel_rfl) (by kernel_rfl) (fun _ _ _ h => h) (Or.inl ⟨by rfl, ?_⟩) (by assumption) ?_
            rotate_left
            · intro w hSw; (try dsimp only at hSw); go_simp; try with_reducible rfl
            try simp only [put_y]
            try simp only [Act.put]
            try simp only [put_z]
            refine wpAnyH_ready (rs := [15]) (by kernel_rfl) (by simp) ?_
            refine AllReadyH.cons rfl (fun K hK => ?_) AllReadyH.nil
            go_simp
            have v2 := updCell (wD.setCell ⟨W.heap.size, 0, none⟩ (.int .i64 (a5 - 1))) W.heap.size 1 (.int .i64 (b5 - 1))
            have bs3 := bs2.set_ 1 (.int .i64 (b5 - 1))
            refine hK.out _ _ ?_ (fun hHeld => ?_)
            · exact ⟨cell_upd (cell_upd d1 v1 hWb) v2 hWb, cell_upd (cell_upd d2 v1 hWb) v2 hWb⟩
            clear hK K
            try simp only [put_y]
            try simp only [Act.put]
            try simp only [put_z]
            refine wpAnyH_done (by kernel_rfl) ?_ _
            obtain ⟨w3, H3⟩ := nm ((wD.setCell ⟨W.heap.size, 0, none⟩ (.int .i64 (a5 - 1))).setCell ⟨W.heap.size, 1, none⟩ (.int .i64 (b5 - 1)))
            have e9 := H3.out
            rw [H3.out] at bs3 v2
            have bs3 : Blk w3 W.heap.size 34 #[.int .i64 (a5 - 1), .int .i64 (b5 - 1), .int .i64 d.s.why, .slice VA d.s.vars.length vc, .slice MA d.s.imms.length mc] := bs3
            have u3 : Upd Non W w3 := ((u1.then_non uD).trans v1 (fun k hk q => by omega)).trans v2 (fun k hk q => by omega)
            clear k0 k1 f0 f1 k1' f1' bs2 v1 v2 d1 d2 s1 s2 s3 e1 e2 e4 e5 e6 e7 e8 bd1
            go_wp2_with fail
            obtain ⟨wE, HwE⟩ := nm w3.drew
            have uE : Upd Non w3 wE := by rw [← HwE.out]; exact Upd.refl.drew
            have bs4 := bs3.upd uE (fun f => f)
            have k3 : wE.cell? ⟨W.heap.size, 3, none⟩ = some (.slice VA d.s.vars.length vc) := bs4.cell 3
            have k4 : wE.cell? ⟨W.heap.size, 4, none⟩ = some (.slice MA d.s.imms.length mc) := bs4.cell 4
            obtain ⟨nv, Hnv⟩ := nm d.s.vars.length
            obtain ⟨ni, Hni⟩ := nm d.s.imms.length
            rw [Hnv.out] at k3 hvc bs4
            rw [Hni.out] at k4 hmc bs4
            obtain ⟨mv, Hmv⟩ := nm (min 5 nv)
            obtain ⟨mi, Hmi⟩ := nm (min 5 ni)
            have n1 : (if (5 : Int) < (nv : Int) then (5 : Int) else (nv : Int)) = (mv : Int) := by rw [← Hmv.out]; split <;> omega
            have n2 : (if (5 : Int) < (ni : Int) then (5 : Int) else (ni : Int)) = (mi : Int) := by rw [← Hmi.out]; split <;> omega
            have n3 : mv ≤ nv ∧ mv ≤ 5 := by have := Hmv.out; omega
            have n4 : mi ≤ ni ∧ mi ≤ 5 := by have := Hmi.out; omega
            have hDo := HD.out
            have n5 : nv ≤ 100000000000000 := by have := HD.out.2.2.2.2.2.2.2.1; rw [Hnv.out] at this; omega
            have n6 : ni ≤ 100000000000000 := by have := HD.out.2.2.2.2.2.2.2.2; rw [Hni.out] at this; omega
            clear hDo
            have r1 : (0 : Int) ≤ (mv : Int) := by omega
            have r2 : (mv : Int) ≤ (vc : Int) := by omega
            have r3 : (0 : Int) ≤ (mi : Int) := by omega
            have r4 : (mi : Int) ≤ (mc : Int) := by omega
            refine wp_region_held_drew (S := fun _ => True) (by kernel_rfl) trivial (fun hHeld => ?_)
            rw [e9, HwE.out]
            refine wpAnyH_take (i := 0) (v := ?_) rfl (by kernel_rfl) (by kernel_rfl) (by kernel_rfl) (fun _ _ _ h => h) (Or.inl ⟨by rfl, ?_⟩) (by assumption) ?_
            rotate_left
            · intro w hSw; (try dsimp only at hSw); go_simp; try with_reducible rfl
            try simp only [put_y]
            try simp only [Act.put]
            try simp only [put_z]
            refine wpAnyH_take (i := 2) (v := ?_) rfl (by kernel_rfl) (by kernel_rfl) (by kernel_rfl) (fun _ _ _ h => h) (Or.inl ⟨by rfl, ?_⟩) (by assumption) ?_
            rotate_left
            · intro w hSw; (try dsimp only at hSw); go_simp; try with_reducible rfl
            try simp only [put_y]
            try simp only [Act.put]
            try simp only [put_z]
            refine wpAnyH_take (i := 7) (v := ?_) rfl (by kernel_rfl) (by kernel_rfl) (by kernel_rfl) (fun _ _ _ h => h) (Or.inl ⟨by rfl, ?_⟩) (by assumption) ?_
            rotate_left
            · intro w hSw; (try dsimp only at hSw); go_simp; try with_reducible rfl
            try simp only [put_y]
            try simp only [Act.put]
            try simp only [put_z]
            refine wpAnyH_take (i := 9) (v := ?_) rfl (by kernel_rfl) (by kernel_rfl) (by kernel_rfl) (fun _ _ _ h => h) (Or.inl ⟨by rfl, ?_⟩) (by assumption) ?_
            rotate_left
            · intro w hSw; (try dsimp only at hSw); go_simp; try with_reducible rfl
            try simp only [put_y]
            try simp only [Act.put]
            try simp only [put_z]
            refine wpAnyH_takeM (fun w' => w'.cell? ⟨W.heap.size, 3, none⟩ = some (.slice VA nv vc)) (calm_cell _ _) [14, 15, 16, 17] (i := 1) (v := ?_) rfl (by kernel_rfl) (by kernel_rfl) (by kernel_rfl) (by kernel_rfl) (fun _ _ _ h => h) (Or.inl ⟨by rfl, ?_⟩) (k3) (by assumption) ?_
            rotate_left
            · intro w hSw; (try dsimp only at hSw); go_simp; try with_reducible rfl
            try simp only [put_y]
            try simp only [Act.put]
            try simp only [put_z]
            refine wpAnyH_takeM (fun w' => w'.cell? ⟨W.heap.size, 3, none⟩ = some (.slice VA nv vc)) (calm_cell _ _) [14, 15, 16, 17] (i := 3) (v := ?_) rfl (by kernel_rfl) (by kernel_rfl) (by kernel_rfl) (by kernel_rfl) (fun _ _ _ h => h) (Or.inl ⟨by rfl, ?_⟩) (k3) (by assumption) ?_
            rotate_left
            · intro w hSw; (try dsimp only at hSw); go_simp; try with_reducible rfl
            try simp only [put_y]
            try simp only [Act.put]
            try simp only [put_z]
            refine wpAnyH_takeM (fun w' => w'.cell? ⟨W.heap.size, 4, none⟩ = some (.slice MA ni mc)) (calm_cell _ _) [14, 15, 16, 17] (i := 8) (v := ?_) rfl (by kernel_rfl) (by kernel_rfl) (by kernel_rfl) (by kernel_rfl) (fun _ _ _ h => h) (Or.inl ⟨by rfl, ?_⟩) (k4) (by assumption) ?_
            rotate_left
            · intro w hSw; (try dsimp only at hSw); go_simp; try with_reducible rfl
            try simp only [put_y]
            try simp only [Act.put]
            try simp only [put_z]
            refine wpAnyH_takeM (fun w' => w'.cell? ⟨W.heap.size, 4, none⟩ = some (.slice MA ni mc)) (calm_cell _ _) [14, 15, 16, 17] (i := 10) (v := ?_) rfl (by kernel_rfl) (by kernel_rfl) (by kernel_rfl) (by kernel_rfl) (fun _ _ _ h => h) (Or.inl ⟨by rfl, ?_⟩) (k4) (by assumption) ?_
            rotate_left
            · intro w hSw; (try dsimp only at hSw); go_simp; try with_reducible rfl
            try simp only [put_y]
            try simp only [Act.put]
            try simp only [put_z]
            refine wpAnyH_take (i := 4) (v := ?_) rfl (by kernel_rfl) (by kernel_rfl) (by kernel_rfl) (fun _ _ _ h => h) (Or.inl ⟨by rfl, ?_⟩) (by assumption) ?_
            rotate_left
            · intro w hSw; (try dsimp only at hSw); go_simp; try with_reducible rfl
            try simp only [put_y]
            try simp only [Act.put]
            try simp only [put_z]
            refine wpAnyH_take (i := 5) (v := ?_) rfl (by kernel_rfl) (by kernel_rfl) (by kernel_rfl) (fun _ _ _ h => h) (Or.inl ⟨by rfl, ?_⟩) (by assumption) ?_
            rotate_left
            · intro w hSw; (try dsimp only at hSw); go_simp; try with_reducible rfl
            try simp only [put_y]
            try simp only [Act.put]
            try simp only [put_z]
            refine wpAnyH_take (i := 6) (v := ?_) rfl (by kernel_rfl) (by kernel_rfl) (by kernel_rfl) (fun _ _ _ h => h) (Or.inl ⟨by rfl, ?_⟩) (by assumption) ?_
            rotate_left
            · intro w hSw; (try dsimp only at hSw); go_simp; try with_reducible rfl
            try simp only [put_y]
            try simp only [Act.put]
            try simp only [put_z]
            refine wpAnyH_take (i := 11) (v := ?_) rfl (by kernel_rfl) (by kernel_rfl) (by kernel_rfl) (fun _ _ _ h => h) (Or.inl ⟨by rfl, ?_⟩) (by assumption) ?_
            rotate_left
            · intro w hSw; (try dsimp only at hSw); go_simp; try with_reducible rfl
            try simp only [put_y]
            try simp only [Act.put]
            try simp only [put_z]
            refine wpAnyH_take (i := 12) (v := ?_) rfl (by kernel_rfl) (by kernel_rfl) (by kernel_rfl) (fun _ _ _ h => h) (Or.inl ⟨by rfl, ?_⟩) (by assumption) ?_
            rotate_left
            · intro w hSw; (try dsimp only at hSw); go_simp; try with_reducible rfl
            try simp only [put_y]
            try simp only [Act.put]
            try simp only [put_z]
            refine wpAnyH_take (i := 13) (v := ?_) rfl (by kernel_rfl) (by kernel_rfl) (by kernel_rfl) (fun _ _ _ h => h) (Or.inl ⟨by rfl, ?_⟩) (by assumption) ?_
            rotate_left
            · intro w hSw; (try dsimp only at hSw); go_simp; try with_reducible rfl
            try simp only [put_y]
            try simp only [Act.put]
            try simp only [put_z]
            refine wpAnyH_take (i := 14) (v := ?_) rfl (by kernel_rfl) (by kernel_rfl) (by kernel_rfl) (fun _ _ _ h => h) (Or.inl ⟨by rfl, ?_⟩) (by assumption) ?_
            rotate_left
            · intro w hSw; (try dsimp only at hSw); go_simp; try with_reducible rfl
            try simp only [put_y]
            try simp only [Act.put]
            try simp only [put_z]
            have f3 := bs4.frozen 3
            refine wpAnyH_ready (rs := [15]) (by kernel_rfl) (by simp) ?_
            refine AllReadyH.cons rfl (fun K hK => ?_) AllReadyH.nil
            go_simp
            have v3 := updCell wE W.heap.size 3 (.slice VA mv vc)
            have bs5 := bs4.set_ 3 (.slice VA mv vc)
            have k4' : (wE.setCell ⟨W.heap.size, 3, none⟩ (.slice VA mv vc)).cell? ⟨W.heap.size, 4, none⟩ = some (.slice MA ni mc) := bs5.cell 4
            have f4' := bs5.frozen 4
            refine hK.out _ _ ?_ (fun hHeld => ?_)
            · exact trivial
            clear hK K
            try simp only [put_y]
            try simp only [Act.put]
            try simp only [put_z]
            refine wpAnyH_take (i := 16) (v := ?_) rfl (by kernel_rfl) (by kernel_rfl) (by kernel_rfl) (fun _ _ _ h => h) (Or.inl ⟨by rfl, ?_⟩) (by assumption) ?_
            rotate_left
            · intro w hSw; (try dsimp only at hSw); go_simp; try with_reducible rfl
            try simp only [put_y]
            try simp only [Act.put]
            try simp only [put_z]
            refine wpAnyH_ready (rs := [17]) (by kernel_rfl) (by simp) ?_
            refine AllReadyH.cons rfl (fun K hK => ?_) AllReadyH.nil
            go_simp
            have v4 := updCell (wE.setCell ⟨W.heap.size, 3, none⟩ (.slice VA mv vc)) W.heap.size 4 (.slice MA mi mc)
            have bs6 := bs5.set_ 4 (.slice MA mi mc)
            refine hK.out _ _ ?_ (fun hHeld => ?_)
            · exact trivial
            clear hK K
            try simp only [put_y]
            try simp only [Act.put]
            try simp only [put_z]
            refine wpAnyH_done (by kernel_rfl) ?_ _
            obtain ⟨w5, H5⟩ := nm ((wE.setCell ⟨W.heap.size, 3, none⟩ (.slice VA mv vc)).setCell ⟨W.heap.size, 4, none⟩ (.slice MA mi mc))
            have e5 := H5.out
            rw [H5.out] at bs6 v4
            have u5 : Upd Non W w5 := ((u3.then_non uE).trans v3 (fun k hk q => by omega)).trans v4 (fun k hk q => by omega)
            have bs6 : Blk w5 W.heap.size 34 #[.int .i64 (a5 - 1), .int .i64 (b5 - 1), .int .i64 d.s.why, .slice VA mv vc, .slice MA mi mc] := bs6
            have hF5 := hF.grow u5
            have lv : (d.s.vars.take mv).length = mv := by rw [List.length_take, Hnv.out]; omega
            have li : (d.s.imms.take mi).length = mi := by rw [List.length_take, Hni.out]; omega
            have hv5 : Ints w5 (fun k => (k < w.heap.size ∨ (wr.heap.size ≤ k ∧ k < W.heap.size)) ∨ (W.heap.size ≤ k ∧ k < w5.heap.size)) VA (d.s.vars.take mv) := ((hiv.upd u5 (fun _ _ _ f => f)).take_ mv).mono (fun k _ hk => .inl (.inl hk))
            have hm5 : Ints w5 (fun k => (k < w.heap.size ∨ (wr.heap.size ≤ k ∧ k < W.heap.size)) ∨ (W.heap.size ≤ k ∧ k < w5.heap.size)) MA (d.s.imms.take mi) := ((him.upd u5 (fun _ _ _ f => f)).take_ mi).mono (fun k _ hk => .inl (.inl hk))
            obtain ⟨s', Hs'⟩ := nm (⟨a5 - 1, b5 - 1, d.s.why, d.s.vars.take mv, d.s.imms.take mi⟩ : Stp)
            have lv' : s'.vars.length = mv := by rw [← Hs'.out]; exact lv
            have li' : s'.imms.length = mi := by rw [← Hs'.out]; exact li
            have hv5' : Ints w5 (fun k => (k < w.heap.size ∨ (wr.heap.size ≤ k ∧ k < W.heap.size)) ∨ (W.heap.size ≤ k ∧ k < w5.heap.size)) VA s'.vars := by rw [← Hs'.out]; exact hv5
            have hm5' : Ints w5 (fun k => (k < w.heap.size ∨ (wr.heap.size ≤ k ∧ k < W.heap.size)) ∨ (W.heap.size ≤ k ∧ k < w5.heap.size)) MA s'.imms := by rw [← Hs'.out]; exact hm5
            have CU := Lib.hid (grUnion1_c w5 _ gb rb G G hF5 HI.out.wf (by omega) s' VA MA vc mc hv5' hm5' (by omega) (by omega))
            have hl' : s'.l = a5 - 1 := by rw [← Hs'.out]
            have hr' : s'.r = b5 - 1 := by rw [← Hs'.out]
            have hy' : s'.why = d.s.why := by rw [← Hs'.out]
            have HI6 := Lib.hid (HI.out.uni s' (by omega) (by omega))
            have hT6 := uniG_T G s'
            have hL6 : (uniG G s').L.length = G.L.length := by rw [uniG_L]
            unfold gp stpV uniRet at CU
            obtain ⟨x1, Hx1⟩ := nm (uniNew G s')
            obtain ⟨x2, Hx2⟩ := nm (if uniOk G s' then (0 : Int) else 1)
            obtain ⟨G6, HG6⟩ := nm (uniG G s')
            rw [Hx1.out, Hx2.out, HG6.out, lv', li', hl', hr', hy'] at CU
            rw [HG6.out] at HI6 hT6 hL6
            have t1 : (x1 != x1) = false := by simp
            have t2 : (x2 != x2) = false := by simp
            have j0 := bs6.cell 0
            have j1 := bs6.cell 1
            have j2 := bs6.cell 2
            have j3 := bs6.cell 3
            have j4 := bs6.cell 4
            have hb5 := bs6.lt
            have hnb := (fun h => h (.inr ⟨Nat.le_refl _, hb5⟩) : ¬ Out (fun k => (k < w.heap.size ∨ (wr.heap.size ≤ k ∧ k < W.heap.size)) ∨ (W.heap.size ≤ k ∧ k < w5.heap.size)) W.heap.size)
            clear k3 k4 f3 k4' f4' v3 v4 bs5 bs4 n1 n2 lv li hv5 hm5 hl' hr' hy' hF
            go_wp2_with fail
            refine CU.out.mono ?_
            rintro e w6 ⟨rfl, hF6, hu6⟩
            have bs7 := bs6.upd hu6 hnb
            have j0 := bs7.cell 0
            have j1 := bs7.cell 1
            have j2 := bs7.cell 2
            have j3 := bs7.cell 3
            have j4 := bs7.cell 4
            have hU6 := (hUW.then_non u5).out_trans hu6 (fun i hi => .inl (.inl hi))
            have hv6 := hv5'.upd hu6 (fun k _ q h => h q)
            have hm6 := hm5'.upd hu6 (fun k _ q h => h q)
            have CV := Lib.hid (grUnion2_c w6 _ gb rb G6 G hF6 HI.out.wf (by omega) s' VA MA vc mc hv6 hm6 (by omega) (by omega))
            have hl' : s'.l = a5 - 1 := by rw [← Hs'.out]
            have hr' : s'.r = b5 - 1 := by rw [← Hs'.out]
            have hy' : s'.why = d.s.why := by rw [← Hs'.out]
            unfold gp stpV uniRet at CV
            rw [Hx1.out, Hx2.out, HG6.out, lv', li', hl', hr', hy'] at CV
            clear CU hl' hr' hy' hv5' hm5' hv6 hm6
            go_wp2_with fail
            refine CV.out.mono ?_
            rintro e w7 ⟨rfl, hF7, hu7⟩
            have hU7 := hU6.out_trans hu7 (fun i hi => .inl (.inl hi))
            have C9 := Lib.hid (agrees_c w7 _ gb rb G6 hF7 HI6.out.wf (by omega) (fun s hs => by have := HI6.out.few s hs; omega))
            unfold gp at C9
            clear CV
            go_wp2_with fail
            refine C9.out.mono ?_
            rintro e w9 ⟨rfl, hu9⟩
            have hF9 : GR (· < w.heap.size) w9 gb G6 rb G6 := (hF7.non hu9).mono (fun k hk => .inl (.inl hk))
            go_wp2_with fail
            go_roundg (12 - (k + 1))
            case measure => rw [Hg.out]; omega
            case rel => exact fin G6 w9 HI6.out (by omega) (by omega) hF9 (hU7.then_non hu9)
      · go_upto_region 9 with fail
        go_cut [67] (fun s wx => s = .bool false ∧ wr = wx)
        case first =>
          by_cases h1 : k < ds.length
          · obtain rfl : k = 12 := by omega
            go_wp2_with fail
            go_meet
            exact ⟨rfl, rfl⟩
          · go_wp2_with fail
            go_meet
            exact ⟨rfl, rfl⟩
        case rest =>
          obtain ⟨rfl, rfl⟩ := hcut
          go_wp2_with fail
          refine (eExamples_c _).mono ?_
          rintro e wz ⟨rfl, huz⟩
          go_wp2_with fail
          go_ret
          exact ⟨rfl, hu.then_non huz⟩
  · clear m1 m2 C2 q3 q3' hq3
    obtain ⟨z, Hz⟩ := nm (newCode L)
    go_wp2_with fail
    refine C4.out.mono ?_
    rintro e w2 ⟨hp, hu2⟩
    obtain rfl := new_bad hp (by omega) hgood
    have C6 := Lib.hid (C5.out w2 hu2)
    rw [Hz.out]
    clear hp C5 C4
    go_wp2_with fail
    refine C6.out.mono ?_
    rintro e w3 ⟨hp, hu3⟩
    obtain rfl := rnew_bad hp (by omega) hgood
    have hU3 := (hux.then_non hu2).then_non hu3
    rw [Hz.out]
    clear hp C6
    go_wp2_with fail
    go_loopg [14, 15, 16, 17, 18, 19, 20, 21, 22, 23, 24, 25] 0 (fun g i _ _ _ _ _ _ _ _ _ _ _ wr => i = .int .i64 0 ∧ Upd Non w wr)
    case atStart => exact ⟨rfl, hU3⟩
    case round =>
      obtain ⟨rfl, hu⟩ := hrel
      by_cases h1 : 0 < ds.length
      · go_wp2_with fail
        refine (eExamples_c _).mono ?_
        rintro e wz ⟨rfl, huz⟩
        go_wp2_with fail
        go_ret
        exact ⟨rfl, hu.then_non huz⟩
      · go_wp2_with fail
        refine (eExamples_c _).mono ?_
        rintro e wz ⟨rfl, huz⟩
        go_wp2_with fail
        go_ret
        exact ⟨rfl, hu.then_non huz⟩
end Go.Proofs.Ytigambcefdeaoaa
