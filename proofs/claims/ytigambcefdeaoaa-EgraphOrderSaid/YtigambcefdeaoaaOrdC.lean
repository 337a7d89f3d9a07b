/-
  EgraphOrder, called at two lists of integers, returns true and turns nothing old.
-/
import Derived.Test.YtigambcefdeaoaaFGr2
import Derived.Test.YtigambcefdeaoaaULaw
import Derived.Test.YtigambcefdeaoaaEEx
import Derived.Test.YtigambcefdeaoaaDrawn
import Derived.Test.YtigambcefdeaoaaGCls
import Derived.IntWalk
namespace Go.Proofs.Ytigambcefdeaoaa
open Go.RowKit

def okP (L : List Nd) (p : Int × Int) : Prop := 0 ≤ p.1 ∧ p.1 < L.length ∧ 0 ≤ p.2 ∧ p.2 < L.length ∧ (sortsF L).getD p.1.toNat 0 = (sortsF L).getD p.2.toNat 0
theorem okP_swap {L : List Nd} {p : Int × Int} (h : okP L p) : okP L (p.2, p.1) := ⟨h.2.2.1, h.2.2.2.1, h.1, h.2.1, h.2.2.2.2.symm⟩
theorem uniOk_iff {G : EG} {s : Stp} : uniOk G s = true ↔ okP G.L (s.l, s.r) := by unfold uniOk okP; exact decide_eq_true_iff
theorem UInv.uni' {L : List Nd} {D : Int × Int → Prop} {G : EG} (h : UInv L D G) (s : Stp) : UInv L (fun p => D p ∨ (okP L (s.l, s.r) ∧ p = (s.l, s.r))) (uniG G s) := by
  by_cases hs : uniOk G s = true
  · have ho := uniOk_iff.1 hs
    rw [h.eqL] at ho
    exact (h.uni hs).same (fun p hp => .inl (hp.imp id (fun e => ⟨ho, e⟩))) (fun p hp => .inl (hp.imp id (fun e => e.2)))
  · have e : uniG G s = G := by unfold uniG uniNew; simp [hs]
    rw [e]
    exact h.same (fun p hp => .inl (.inl hp)) (fun p hp => by
      rcases hp with hp | ⟨ho, _⟩
      · exact .inl hp
      · rw [← h.eqL] at ho; exact absurd (uniOk_iff.2 ho) hs)
def plP (m : List Int) (n : Nat) (k : Nat) : Int × Int := (m.getD (2 * k) 0 % n, m.getD (2 * k + 1) 0 % n)
def DUp (L : List Nd) (m : List Int) (k : Nat) (p : Int × Int) : Prop := ∃ i, i < k ∧ okP L (plP m L.length i) ∧ p = plP m L.length i
def DDn (L : List Nd) (m : List Int) (n k : Nat) (p : Int × Int) : Prop := ∃ i, k ≤ i ∧ i < n ∧ okP L ((plP m L.length i).2, (plP m L.length i).1) ∧ p = ((plP m L.length i).2, (plP m L.length i).1)
theorem UInv.up {L : List Nd} {m : List Int} {k : Nat} {G : EG} (h : UInv L (DUp L m k) G) (y : Int) : UInv L (DUp L m (k + 1)) (uniG G ⟨(plP m L.length k).1, (plP m L.length k).2, y, [], []⟩) :=
  (h.uni' ⟨(plP m L.length k).1, (plP m L.length k).2, y, [], []⟩).same
    (fun p hp => by
      rcases hp with ⟨i, hi, ho, e⟩ | ⟨ho, e⟩
      · exact .inl ⟨i, by omega, ho, e⟩
      · exact .inl ⟨k, by omega, ho, e⟩)
    (fun p hp => by
      obtain ⟨i, hi, ho, e⟩ := hp
      by_cases q : i = k
      · subst q; exact .inl (.inr ⟨ho, e⟩)
      · exact .inl (.inl ⟨i, by omega, ho, e⟩))
theorem UInv.dn {L : List Nd} {m : List Int} {n k : Nat} {G : EG} (hk : k < n) (h : UInv L (DDn L m n (k + 1)) G) (y : Int) : UInv L (DDn L m n k) (uniG G ⟨(plP m L.length k).2, (plP m L.length k).1, y, [], []⟩) :=
  (h.uni' ⟨(plP m L.length k).2, (plP m L.length k).1, y, [], []⟩).same
    (fun p hp => by
      rcases hp with ⟨i, hi, hn, ho, e⟩ | ⟨ho, e⟩
      · exact .inl ⟨i, by omega, hn, ho, e⟩
      · exact .inl ⟨k, by omega, hk, ho, e⟩)
    (fun p hp => by
      obtain ⟨i, hi, hn, ho, e⟩ := hp
      by_cases q : i = k
      · subst q; exact .inl (.inr ⟨ho, e⟩)
      · exact .inl (.inl ⟨i, by omega, hn, ho, e⟩))
theorem UInv.meet {L : List Nd} {m : List Int} {n : Nat} {G : EG} (h : UInv L (DDn L m n 0) G) : UInv L (DUp L m n) G :=
  h.same (fun p hp => by obtain ⟨i, _, hn, ho, e⟩ := hp; exact .inr ⟨i, hn, okP_swap ho, by rw [e]⟩) (fun p hp => by obtain ⟨i, hn, ho, e⟩ := hp; exact .inr ⟨i, by omega, hn, okP_swap ho, by rw [e]⟩)

theorem kids_id {n m : Nat} {a b : List Int} (ha : okKids n a = true) (hb : okKids m b = true) (h : kidCs id a = kidCs id b) : a = b := by
  have hl : a.length = b.length := by simpa [kidCs] using congrArg List.length h
  apply List.ext_getElem hl
  intro i hi hi'
  have e := List.getElem_of_eq h (i := i) (by simpa [kidCs] using hi)
  simp only [kidCs, List.getElem_map, id] at e
  have := okKids_get ha hi
  have := okKids_get hb hi'
  omega
theorem newG_closed {L : List Nd} (h : GWf (newG L)) : reb (newG L).c (newG L).L = none := by
  cases e : reb (newG L).c (newG L).L with
  | none => rfl
  | some p =>
    obtain ⟨i, j⟩ := p
    obtain ⟨h1, h2, h3, _⟩ := reb_some e
    have hi : i < (newG L).L.length := by omega
    rw [getD_of hi, getD_of h1] at h3
    obtain ⟨a, b, c⟩ := cgB_iff.1 h3
    have hk := kids_id (h.wf.kids i hi) (h.wf.kids j h1) c
    refine absurd ?_ (h.wf.nodup i j hi h1 h2)
    generalize (newG L).L[i] = x at *
    generalize (newG L).L[j] = y at *
    obtain ⟨x1, x2, x3⟩ := x
    obtain ⟨y1, y2, y3⟩ := y
    simp at a b hk
    rw [a, b, hk]

set_option maxRecDepth 100000 in
set_option maxHeartbeats 4000000 in
theorem eOrder_c (w : World) (F : Nat → Prop) (LA MA : Option Addr) (lc mc : Nat) (l m : List Int) (hl : Ints w F LA l) (hm : Ints w F MA m) (hli : ∀ x ∈ l, I64 x) (hll : l.length ≤ 1000000000000000) (hml : m.length ≤ 1000000000000000) :
    Calls Try.prog 4 #[.slice LA l.length lc, .slice MA m.length mc] w fun e w' => e = .returned (.bool true) ∧ Upd Non w w' := by
  have C1 := Lib.hid (nodes_c w F LA lc l false hl hli hll)
  have hgw := nodesF_wf false hli
  have hlen := nodesF_len false l
  have hsm := nodesTo_small false l 14
  have hpos := (nodesF_good false l hli).pos
  have hGN := nodesF_goodN false l
  have hok := (nodesF_good false l hli).ok
  obtain ⟨L, HL⟩ := nm (nodesF false l)
  rw [HL.out] at C1 hgw hlen hpos hGN hok
  rw [show nodesTo false l 14 = L from HL.out] at hsm
  have HW := Lib.hid hgw
  have HOK := Lib.hid hok
  have HGN := Lib.hid hGN
  have HSM := Lib.hid hsm
  have hm := hm.mono (G := (· < w.heap.size)) (fun k hk _ => hk)
  clear hgw hok hGN hsm hli
  go_enter Try.func4, Try.ntmps4
  go_wp2_with fail
  refine C1.out.mono ?_
  rintro e w1 ⟨A, c, rfl, hno, hA, hu1⟩
  have hV := hno.view (F := fun _ => True) (fun _ _ => trivial) (fun _ _ _ => trivial)
  obtain ⟨_, cs, ho, _⟩ := hno
  have hcap := ho.le
  clear ho
  have C2 := Lib.hid (fun (W : World) (u : Upd Non w1 W) => fNew_c W _ A c L (hV.upd u (fun _ _ _ f => f)) hcap (by omega) HOK.out (fun nd h => by have := HSM.out nd h; omega) HGN.out.srt HGN.out.dif)
  unfold gp at C2
  go_wp2_with fail
  refine (C2.out w1 Upd.refl).mono ?_
  rintro e w2 ⟨gb1, rfl, hg1, hu2⟩
  go_wp2_with fail
  refine (C2.out w2 hu2).mono ?_
  rintro e w3 ⟨gb2, rfl, hg2, hu3⟩
  have hF0 : FG2 w.heap.size w3 gb1 (newG L) gb2 (newG L) := FG2.of hg1 hu2.size Upd.refl hg2 hu3 hu1.size
  have hU3 := (hu1.then_non hu2).then_non hu3
  clear hg1 hg2 C1 C2 hV hA
  obtain ⟨n, Hn⟩ : ∃ n : Nat, Hid (n = min (m.length / 2) 8) := ⟨_, rfl⟩
  have hn8 : n ≤ 8 := by have := Hn.out; omega
  have hnm : 2 * n ≤ m.length := by have := Hn.out; omega
  go_upto_region 6 with fail
  go_cut [10] (fun s wx => s = .int .i64 (n : Int) ∧ w3 = wx)
  case first =>
    by_cases hc : (m.length : Int) / 2 ≤ 8
    · have e : ((m.length : Int) / 2) = (n : Int) := by have := Hn.out; omega
      have E := Lib.hid e
      clear e
      go_wp2_with fail
      go_meet
      exact ⟨by rw [← E.out], rfl⟩
    · have e : (8 : Int) = (n : Int) := by have := Hn.out; omega
      have E := Lib.hid e
      clear e
      go_wp2_with fail
      go_meet
      exact ⟨by rw [← E.out], rfl⟩
  case rest =>
    obtain ⟨rfl, rfl⟩ := hcut
    go_wp2_with fail
    go_loopg [11] n (fun g i wr => ∃ (k : Nat) (G1 : EG), Hid (g = n - k) ∧ k ≤ n ∧ i = .int .i64 k ∧ FG2 w.heap.size wr gb1 G1 gb2 (newG L) ∧ Hid (UInv L (DUp L m k) G1) ∧ G1.T.length ≤ k ∧ Upd Non w wr)
    case atStart => exact ⟨0, newG L, rfl, by omega, rfl, hF0, (UInv.new HW.out).same (fun p hp => hp.elim) (fun p hp => by obtain ⟨i, hi, _⟩ := hp; omega), by simp [newG], hU3⟩
    case round =>
      obtain ⟨k, G1, Hg, hk, rfl, hF, HU, hT, hu⟩ := hrel
      by_cases hlt : k < n
      · have hk2 : 2 * k < m.length := by omega
        have hk3 : 2 * k + 1 < m.length := by omega
        obtain ⟨mb, mo, rfl, hmw, hmb, hm0⟩ := (hm.upd hu (fun _ _ _ f => f)).at_ hk2
        obtain ⟨mb', mo', e', _, _, hm1⟩ := (hm.upd hu (fun _ _ _ f => f)).at_ hk3
        obtain ⟨rfl, rfl⟩ : mb = mb' ∧ mo = mo' := by injection e' with e'; injection e' with a b; exact ⟨a, b⟩
        clear e'
        have HP : Hid (plP m L.length k = (m[2 * k] % (L.length : Int), m[2 * k + 1] % (L.length : Int))) := by show _ = _; unfold plP; rw [getD_of hk2, getD_of hk3]
        generalize m[2 * k] = x at *
        generalize m[2 * k + 1] = y at *
        have CP := Lib.hid (fun (z : Int) (W : World) => (pick_c z L.length W (by omega) (by omega)).mono (R' := fun e w' => e = .returned (.int .i64 (z % (L.length : Int))) ∧ w' = W) (fun _ _ h => ⟨h.1, h.2.symm⟩))
        have hsz := hu.size
        have CU := Lib.hid (f2Union_c wr.drew w.heap.size gb1 gb2 G1 (newG L) (hF.non Upd.refl.drew) hsz HU.out.wf (by omega) ⟨x % (L.length : Int), y % (L.length : Int), 1, [], []⟩ rfl rfl)
        unfold gp at CU
        obtain ⟨p, Hp⟩ := nm (2 * k)
        obtain ⟨q, Hq⟩ := nm (2 * k + 1)
        rw [Hp.out] at hm0 hk2
        rw [Hq.out] at hm1 hk3
        have hpk : p = 2 * k := Hp.out.symm
        have hqk : q = 2 * k + 1 := Hq.out.symm
        have v0 : IntKind.i64.wrap (2 * (k : Int)) = (p : Int) := by rw [IntWalk.i64_in _ (by omega)]; omega
        have v1 : IntKind.i64.wrap ((p : Int) + 1) = (q : Int) := by rw [IntWalk.i64_in _ (by omega)]; omega
        have v2 : (0 : Int) ≤ (p : Int) := by omega
        have v3 : (p : Int) < (m.length : Int) := by omega
        have v4 : (0 : Int) ≤ (q : Int) := by omega
        have v5 : (q : Int) < (m.length : Int) := by omega
        clear hpk hqk
        have q0 : wr.drew.cell? ⟨mb, mo + p, none⟩ = some (.int .i64 x) := hm0
        have q1 : wr.drew.cell? ⟨mb, mo + q, none⟩ = some (.int .i64 y) := hm1
        go_wp2_with fail
        refine wp_region_held_drew (S := fun w' => w'.cell? ⟨mb, mo + p, none⟩ = some (.int .i64 x) ∧ w'.cell? ⟨mb, mo + q, none⟩ = some (.int .i64 y)) (by kernel_rfl) ⟨q0, q1⟩ (fun hHeld => ?_)
        refine wpAnyH_take (i := 0) (v := ?_) rfl (by kernel_rfl) (by kernel_rfl) (by kernel_rfl) (fun _ _ _ h => h) (Or.inl ⟨by rfl, ?_⟩) (by assumption) ?_
        rotate_left
        · intro w hSw; (try dsimp only at hSw); go_simp; try with_reducible rfl
        try simp only [put_y]
        try simp only [Act.put]
        try simp only [put_z]
        refine wpAnyH_take (i := 1) (v := ?_) rfl (by kernel_rfl) (by kernel_rfl) (by kernel_rfl) (fun _ _ _ h => h) (Or.inl ⟨by rfl, ?_⟩) (by assumption) ?_
        rotate_left
        · intro w hSw; (try dsimp only at hSw); go_simp; try with_reducible rfl
        try simp only [put_y]
        try simp only [Act.put]
        try simp only [put_z]
        refine wpAnyH_take (i := 2) (v := ?_) rfl (by kernel_rfl) (by kernel_rfl) (by kernel_rfl) (fun _ _ _ h => h) (Or.inl ⟨by rfl, ?_⟩) (by assumption) ?_
        rotate_left
        · intro w hSw; (try dsimp only at hSw); go_simp; try with_reducible rfl
        try simp only [put_y]
        try simp only [Act.put]
        try simp only [put_z]
        refine wpAnyH_take (i := 3) (v := ?_) rfl (by kernel_rfl) (by kernel_rfl) (by kernel_rfl) (fun _ _ _ h => h) (Or.inl ⟨by rfl, ?_⟩) (by assumption) ?_
        rotate_left
        · intro w hSw; (try dsimp only at hSw); go_simp; try with_reducible rfl
        try simp only [put_y]
        try simp only [Act.put]
        try simp only [put_z]
        refine wpAnyH_take (i := 4) (v := ?_) rfl (by kernel_rfl) (by kernel_rfl) (by kernel_rfl) (fun _ _ _ h => h) (Or.inl ⟨by rfl, ?_⟩) (by assumption) ?_
        rotate_left
        · intro w hSw; (try dsimp only at hSw); go_simp; try with_reducible rfl
        try simp only [put_y]
        try simp only [Act.put]
        try simp only [put_z]
        refine wpAnyH_take (i := 5) (v := ?_) rfl (by kernel_rfl) (by kernel_rfl) (by kernel_rfl) (fun _ _ _ h => h) (Or.inl ⟨by rfl, ?_⟩) (by assumption) ?_
        rotate_left
        · intro w hSw; (try dsimp only at hSw); go_simp; try with_reducible rfl
        try simp only [put_y]
        try simp only [Act.put]
        try simp only [put_z]
        refine wpAnyH_take (i := 6) (v := ?_) rfl (by kernel_rfl) (by kernel_rfl) (by kernel_rfl) (fun _ _ _ h => h) (Or.inl ⟨by rfl, ?_⟩) (by assumption) ?_
        rotate_left
        · intro w hSw; (try dsimp only at hSw); go_simp; try with_reducible rfl
        try simp only [put_y]
        try simp only [Act.put]
        try simp only [put_z]
        refine wpAnyH_take (i := 7) (v := ?_) rfl (by kernel_rfl) (by kernel_rfl) (by kernel_rfl) (fun _ _ _ h => h) (Or.inl ⟨by rfl, ?_⟩) (by assumption) ?_
        rotate_left
        · intro w hSw; (try dsimp only at hSw); go_simp; try with_reducible rfl
        try simp only [put_y]
        try simp only [Act.put]
        try simp only [put_z]
        refine wpAnyH_takeC (i := 8) (v := ?v1) rfl (by kernel_rfl) (by kernel_rfl) (by kernel_rfl) (fun _ _ _ h => h) ⟨by rfl, ?f1, ?a1, ?r1, ?c1⟩ (by assumption) ?m1
        case r1 => intro w; go_simp; constructor <;> with_reducible rfl
        case c1 => intro W hSw; refine (CP.out x W).mono ?_; rintro e w' ⟨rfl, rfl⟩; constructor <;> with_reducible rfl
        try simp only [put_y]
        try simp only [Act.put]
        try simp only [put_z]
        refine wpAnyH_take (i := 9) (v := ?_) rfl (by kernel_rfl) (by kernel_rfl) (by kernel_rfl) (fun _ _ _ h => h) (Or.inl ⟨by rfl, ?_⟩) (by assumption) ?_
        rotate_left
        · intro w hSw; (try dsimp only at hSw); go_simp; try with_reducible rfl
        try simp only [put_y]
        try simp only [Act.put]
        try simp only [put_z]
        refine wpAnyH_take (i := 10) (v := ?_) rfl (by kernel_rfl) (by kernel_rfl) (by kernel_rfl) (fun _ _ _ h => h) (Or.inl ⟨by rfl, ?_⟩) (by assumption) ?_
        rotate_left
        · intro w hSw; (try dsimp only at hSw); go_simp; try with_reducible rfl
        try simp only [put_y]
        try simp only [Act.put]
        try simp only [put_z]
        refine wpAnyH_take (i := 11) (v := ?_) rfl (by kernel_rfl) (by kernel_rfl) (by kernel_rfl) (fun _ _ _ h => h) (Or.inl ⟨by rfl, ?_⟩) (by assumption) ?_
        rotate_left
        · intro w hSw; (try dsimp only at hSw); go_simp; try with_reducible rfl
        try simp only [put_y]
        try simp only [Act.put]
        try simp only [put_z]
        refine wpAnyH_take (i := 12) (v := ?_) rfl (by kernel_rfl) (by kernel_rfl) (by kernel_rfl) (fun _ _ _ h => h) (Or.inl ⟨by rfl, ?_⟩) (by assumption) ?_
        rotate_left
        · intro w hSw; (try dsimp only at hSw); go_simp; try with_reducible rfl
        try simp only [put_y]
        try simp only [Act.put]
        try simp only [put_z]
        refine wpAnyH_take (i := 13) (v := ?_) rfl (by kernel_rfl) (by kernel_rfl) (by kernel_rfl) (fun _ _ _ h => h) (Or.inl ⟨by rfl, ?_⟩) (by assumption) ?_
        rotate_left
        · intro w hSw; (try dsimp only at hSw); go_simp; try with_reducible rfl
        try simp only [put_y]
        try simp only [Act.put]
        try simp only [put_z]
        refine wpAnyH_take (i := 14) (v := ?_) rfl (by kernel_rfl) (by kernel_rfl) (by kernel_rfl) (fun _ _ _ h => h) (Or.inl ⟨by rfl, ?_⟩) (by assumption) ?_
        rotate_left
        · intro w hSw; (try dsimp only at hSw); go_simp; try with_reducible rfl
        try simp only [put_y]
        try simp only [Act.put]
        try simp only [put_z]
        refine wpAnyH_take (i := 15) (v := ?_) rfl (by kernel_rfl) (by kernel_rfl) (by kernel_rfl) (fun _ _ _ h => h) (Or.inl ⟨by rfl, ?_⟩) (by assumption) ?_
        rotate_left
        · intro w hSw; (try dsimp only at hSw); go_simp; try with_reducible rfl
        try simp only [put_y]
        try simp only [Act.put]
        try simp only [put_z]
        refine wpAnyH_take (i := 16) (v := ?_) rfl (by kernel_rfl) (by kernel_rfl) (by kernel_rfl) (fun _ _ _ h => h) (Or.inl ⟨by rfl, ?_⟩) (by assumption) ?_
        rotate_left
        · intro w hSw; (try dsimp only at hSw); go_simp; try with_reducible rfl
        try simp only [put_y]
        try simp only [Act.put]
        try simp only [put_z]
        refine wpAnyH_takeC (i := 17) (v := ?v2) rfl (by kernel_rfl) (by kernel_rfl) (by kernel_rfl) (fun _ _ _ h => h) ⟨by rfl, ?f2, ?a2, ?r2, ?c2⟩ (by assumption) ?m2
        case r2 => intro w; go_simp; constructor <;> with_reducible rfl
        case c2 => intro W hSw; refine (CP.out y W).mono ?_; rintro e w' ⟨rfl, rfl⟩; constructor <;> with_reducible rfl
        try simp only [put_y]
        try simp only [Act.put]
        try simp only [put_z]
        refine wpAnyH_take (i := 18) (v := ?_) rfl (by kernel_rfl) (by kernel_rfl) (by kernel_rfl) (fun _ _ _ h => h) (Or.inl ⟨by rfl, ?_⟩) (by assumption) ?_
        rotate_left
        · intro w hSw; (try dsimp only at hSw); go_simp; try with_reducible rfl
        try simp only [put_y]
        try simp only [Act.put]
        try simp only [put_z]
        refine wpAnyH_ready (rs := [19]) (by kernel_rfl) (by simp) ?_
        refine AllReadyH.cons rfl (fun K hK => ?_) AllReadyH.nil
        go_simp
        refine CU.out.mono ?_
        rintro e w4 ⟨rfl, hF4, hu4'⟩
        have hu4 : Upd (w.heap.size ≤ ·) wr w4 := (Upd.refl.drew (S := fun i => w.heap.size ≤ i)).trans hu4' (fun _ _ h => h)
        have hmw : mb < w.heap.size := hmw
        have hup := HU.out.up (m := m) 1
        rw [HP.out] at hup
        have hT4 := uniG_T G1 ⟨x % (L.length : Int), y % (L.length : Int), 1, [], []⟩
        have HU4 := Lib.hid hup
        have hU4 := hu4.old hu (Nat.le_refl _)
        clear hup v0 v1
        go_wp2_with fail
        refine hK.out _ _ ?_ (fun hHeld => ?_)
        · exact ⟨cell_upd hm0 hu4 (by omega), cell_upd hm1 hu4 (by omega)⟩
        clear hK K
        try simp only [put_y]
        try simp only [Act.put]
        try simp only [put_z]
        refine wpAnyH_done (by kernel_rfl) ?_ _
        go_wp2_with fail
        go_roundg (n - (k + 1))
        case measure => rw [Hg.out]; omega
        case rel => exact ⟨k + 1, _, rfl, by omega, by go_num, hF4, HU4, by omega, hU4⟩
      · obtain rfl : n = k := by omega
        obtain ⟨w5, e5⟩ : ∃ w5 : World, w5 = wr := ⟨_, rfl⟩
        subst e5
        go_wp2_with fail
        go_loopg [12] n (fun g i wr => ∃ (k : Nat) (G2 : EG), Hid (g = k) ∧ k ≤ n ∧ Hid (i = .int .i64 ((k : Int) - 1)) ∧ FG2 w.heap.size wr gb1 G1 gb2 G2 ∧ Hid (UInv L (DDn L m n k) G2) ∧ Hid (reb G2.c G2.L = none) ∧ G2.T.length ≤ 3000 * (n - k) ∧ Upd Non w wr)
        case atStart => exact ⟨n, newG L, rfl, by omega, rfl, hF, (UInv.new HW.out).same (fun p hp => hp.elim) (fun p hp => by obtain ⟨i, hi, hn, _⟩ := hp; omega), newG_closed HW.out, by simp [newG], hu⟩
        case round =>
          obtain ⟨k, G2, Hg2, hk, Hi, hF, HU2, HR2, hT2, hu⟩ := hrel
          have HI := Hi.out
          subst HI
          have hsz := hu.size
          cases k with
          | zero =>
            rw [show ((0 : Nat) : Int) - 1 = -1 from rfl]
            have hT1 : G1.T.length ≤ 900000000 := by omega
            have C6 := Lib.hid (f2Rebuild_c wr w.heap.size gb1 gb2 G1 G2 hF hsz HU.out.wf hT1)
            unfold gp at C6
            have HUm := Lib.hid HU2.out.meet
            clear Hi HU2
            go_wp2_with fail
            refine C6.out.mono ?_
            rintro e w6 ⟨nr, G3, hr, hnr, rfl, hF6, hu6⟩
            obtain ⟨hi3, hr3⟩ := UInv.rebuilt hr HU.out
            have HE := Lib.hid (hi3.findEq HUm.out hr3 HR2.out)
            have hU6 := hu6.old hu (Nat.le_refl _)
            clear hr hi3 hr3 C6
            go_wp2_with fail
            go_loopg [13, 101] L.length (fun g _ i wr => ∃ k : Nat, Hid (g = L.length - k) ∧ k ≤ L.length ∧ i = .int .i64 k ∧ w6 = wr)
            case atStart => exact ⟨0, rfl, by omega, rfl, rfl⟩
            case round =>
              obtain ⟨k, Hg3, hk, rfl, rfl⟩ := hrel
              by_cases hlt : k < L.length
              · have C7 := Lib.hid (f2Find_c w6 w.heap.size gb1 gb2 G3 G2 hF6 k)
                have C8 := Lib.hid (f2Find_c w6 w.heap.size gb2 gb1 G2 G3 hF6.swap k)
                rw [HE.out] at C7
                unfold gp at C7 C8
                generalize findF G2 k = z at *
                have t1 : ((z : Int) != (z : Int)) = false := by simp
                go_wp2_with fail
                refine C7.out.mono ?_
                rintro e w' ⟨rfl, rfl⟩
                go_wp2_with fail
                refine C8.out.mono ?_
                rintro e w' ⟨rfl, rfl⟩
                go_wp2_with fail
                go_roundg (L.length - (k + 1))
                case measure => rw [Hg3.out]; omega
                case rel => exact ⟨k + 1, rfl, by omega, by go_num, rfl⟩
              · obtain rfl : k = L.length := by omega
                go_wp2_with fail
                refine (eExamples_c _).mono ?_
                rintro e w9 ⟨rfl, hu9⟩
                go_wp2_with fail
                go_ret
                exact ⟨rfl, hU6.then_non hu9⟩
          | succ k =>
            have e12 : ((k + 1 : Nat) : Int) - 1 = (k : Int) := by omega
            rw [e12]
            clear e12 Hi
            have hk2 : 2 * k < m.length := by omega
            have hk3 : 2 * k + 1 < m.length := by omega
            obtain ⟨mb, mo, rfl, hmw, hmb, hm0⟩ := (hm.upd hu (fun _ _ _ f => f)).at_ hk2
            obtain ⟨mb', mo', e', _, _, hm1⟩ := (hm.upd hu (fun _ _ _ f => f)).at_ hk3
            obtain ⟨rfl, rfl⟩ : mb = mb' ∧ mo = mo' := by injection e' with e'; injection e' with a b; exact ⟨a, b⟩
            clear e'
            have HP : Hid (plP m L.length k = (m[2 * k] % (L.length : Int), m[2 * k + 1] % (L.length : Int))) := by show _ = _; unfold plP; rw [getD_of hk2, getD_of hk3]
            generalize m[2 * k] = x at *
            generalize m[2 * k + 1] = y at *
            have CP := Lib.hid (fun (z : Int) (W : World) => (pick_c z L.length W (by omega) (by omega)).mono (R' := fun e w' => e = .returned (.int .i64 (z % (L.length : Int))) ∧ w' = W) (fun _ _ h => ⟨h.1, h.2.symm⟩))
            have CU := Lib.hid (f2Union_c wr.drew w.heap.size gb2 gb1 G2 G1 (hF.swap.non Upd.refl.drew) hsz HU2.out.wf (by omega) ⟨y % (L.length : Int), x % (L.length : Int), 1, [], []⟩ rfl rfl)
            unfold gp at CU
            obtain ⟨p, Hp⟩ := nm (2 * k)
            obtain ⟨q, Hq⟩ := nm (2 * k + 1)
            rw [Hp.out] at hm0 hk2
            rw [Hq.out] at hm1 hk3
            have hpk : p = 2 * k := Hp.out.symm
            have hqk : q = 2 * k + 1 := Hq.out.symm
            have v0 : IntKind.i64.wrap (2 * (k : Int)) = (p : Int) := by rw [IntWalk.i64_in _ (by omega)]; omega
            have v1 : IntKind.i64.wrap ((p : Int) + 1) = (q : Int) := by rw [IntWalk.i64_in _ (by omega)]; omega
            have v2 : (0 : Int) ≤ (p : Int) := by omega
            have v3 : (p : Int) < (m.length : Int) := by omega
            have v4 : (0 : Int) ≤ (q : Int) := by omega
            have v5 : (q : Int) < (m.length : Int) := by omega
            clear hpk hqk
            have q0 : wr.drew.cell? ⟨mb, mo + p, none⟩ = some (.int .i64 x) := hm0
            have q1 : wr.drew.cell? ⟨mb, mo + q, none⟩ = some (.int .i64 y) := hm1
            go_wp2_with fail
            refine wp_region_held_drew (S := fun w' => w'.cell? ⟨mb, mo + p, none⟩ = some (.int .i64 x) ∧ w'.cell? ⟨mb, mo + q, none⟩ = some (.int .i64 y)) (by kernel_rfl) ⟨q0, q1⟩ (fun hHeld => ?_)
            refine wpAnyH_take (i := 0) (v := ?_) rfl (by kernel_rfl) (by kernel_rfl) (by kernel_rfl) (fun _ _ _ h => h) (Or.inl ⟨by rfl, ?_⟩) (by assumption) ?_
            rotate_left
            · intro w hSw; (try dsimp only at hSw); go_simp; try with_reducible rfl
            try simp only [put_y]
            try simp only [Act.put]
            try simp only [put_z]
            refine wpAnyH_take (i := 1) (v := ?_) rfl (by kernel_rfl) (by kernel_rfl) (by kernel_rfl) (fun _ _ _ h => h) (Or.inl ⟨by rfl, ?_⟩) (by assumption) ?_
            rotate_left
            · intro w hSw; (try dsimp only at hSw); go_simp; try with_reducible rfl
            try simp only [put_y]
            try simp only [Act.put]
            try simp only [put_z]
            refine wpAnyH_take (i := 2) (v := ?_) rfl (by kernel_rfl) (by kernel_rfl) (by kernel_rfl) (fun _ _ _ h => h) (Or.inl ⟨by rfl, ?_⟩) (by assumption) ?_
            rotate_left
            · intro w hSw; (try dsimp only at hSw); go_simp; try with_reducible rfl
            try simp only [put_y]
            try simp only [Act.put]
            try simp only [put_z]
            refine wpAnyH_take (i := 3) (v := ?_) rfl (by kernel_rfl) (by kernel_rfl) (by kernel_rfl) (fun _ _ _ h => h) (Or.inl ⟨by rfl, ?_⟩) (by assumption) ?_
            rotate_left
            · intro w hSw; (try dsimp only at hSw); go_simp; try with_reducible rfl
            try simp only [put_y]
            try simp only [Act.put]
            try simp only [put_z]
            refine wpAnyH_take (i := 4) (v := ?_) rfl (by kernel_rfl) (by kernel_rfl) (by kernel_rfl) (fun _ _ _ h => h) (Or.inl ⟨by rfl, ?_⟩) (by assumption) ?_
            rotate_left
            · intro w hSw; (try dsimp only at hSw); go_simp; try with_reducible rfl
            try simp only [put_y]
            try simp only [Act.put]
            try simp only [put_z]
            refine wpAnyH_take (i := 5) (v := ?_) rfl (by kernel_rfl) (by kernel_rfl) (by kernel_rfl) (fun _ _ _ h => h) (Or.inl ⟨by rfl, ?_⟩) (by assumption) ?_
            rotate_left
            · intro w hSw; (try dsimp only at hSw); go_simp; try with_reducible rfl
            try simp only [put_y]
            try simp only [Act.put]
            try simp only [put_z]
            refine wpAnyH_take (i := 6) (v := ?_) rfl (by kernel_rfl) (by kernel_rfl) (by kernel_rfl) (fun _ _ _ h => h) (Or.inl ⟨by rfl, ?_⟩) (by assumption) ?_
            rotate_left
            · intro w hSw; (try dsimp only at hSw); go_simp; try with_reducible rfl
            try simp only [put_y]
            try simp only [Act.put]
            try simp only [put_z]
            refine wpAnyH_take (i := 7) (v := ?_) rfl (by kernel_rfl) (by kernel_rfl) (by kernel_rfl) (fun _ _ _ h => h) (Or.inl ⟨by rfl, ?_⟩) (by assumption) ?_
            rotate_left
            · intro w hSw; (try dsimp only at hSw); go_simp; try with_reducible rfl
            try simp only [put_y]
            try simp only [Act.put]
            try simp only [put_z]
            refine wpAnyH_take (i := 8) (v := ?_) rfl (by kernel_rfl) (by kernel_rfl) (by kernel_rfl) (fun _ _ _ h => h) (Or.inl ⟨by rfl, ?_⟩) (by assumption) ?_
            rotate_left
            · intro w hSw; (try dsimp only at hSw); go_simp; try with_reducible rfl
            try simp only [put_y]
            try simp only [Act.put]
            try simp only [put_z]
            refine wpAnyH_takeC (i := 9) (v := ?v3) rfl (by kernel_rfl) (by kernel_rfl) (by kernel_rfl) (fun _ _ _ h => h) ⟨by rfl, ?f3, ?a3, ?r3, ?c3⟩ (by assumption) ?m3
            case r3 => intro w; go_simp; constructor <;> with_reducible rfl
            case c3 => intro W hSw; refine (CP.out y W).mono ?_; rintro e w' ⟨rfl, rfl⟩; constructor <;> with_reducible rfl
            try simp only [put_y]
            try simp only [Act.put]
            try simp only [put_z]
            refine wpAnyH_take (i := 10) (v := ?_) rfl (by kernel_rfl) (by kernel_rfl) (by kernel_rfl) (fun _ _ _ h => h) (Or.inl ⟨by rfl, ?_⟩) (by assumption) ?_
            rotate_left
            · intro w hSw; (try dsimp only at hSw); go_simp; try with_reducible rfl
            try simp only [put_y]
            try simp only [Act.put]
            try simp only [put_z]
            refine wpAnyH_take (i := 11) (v := ?_) rfl (by kernel_rfl) (by kernel_rfl) (by kernel_rfl) (fun _ _ _ h => h) (Or.inl ⟨by rfl, ?_⟩) (by assumption) ?_
            rotate_left
            · intro w hSw; (try dsimp only at hSw); go_simp; try with_reducible rfl
            try simp only [put_y]
            try simp only [Act.put]
            try simp only [put_z]
            refine wpAnyH_take (i := 12) (v := ?_) rfl (by kernel_rfl) (by kernel_rfl) (by kernel_rfl) (fun _ _ _ h => h) (Or.inl ⟨by rfl, ?_⟩) (by assumption) ?_
            rotate_left
            · intro w hSw; (try dsimp only at hSw); go_simp; try with_reducible rfl
            try simp only [put_y]
            try simp only [Act.put]
            try simp only [put_z]
            refine wpAnyH_take (i := 13) (v := ?_) rfl (by kernel_rfl) (by kernel_rfl) (by kernel_rfl) (fun _ _ _ h => h) (Or.inl ⟨by rfl, ?_⟩) (by assumption) ?_
            rotate_left
            · intro w hSw; (try dsimp only at hSw); go_simp; try with_reducible rfl
            try simp only [put_y]
            try simp only [Act.put]
            try simp only [put_z]
            refine wpAnyH_take (i := 14) (v := ?_) rfl (by kernel_rfl) (by kernel_rfl) (by kernel_rfl) (fun _ _ _ h => h) (Or.inl ⟨by rfl, ?_⟩) (by assumption) ?_
            rotate_left
            · intro w hSw; (try dsimp only at hSw); go_simp; try with_reducible rfl
            try simp only [put_y]
            try simp only [Act.put]
            try simp only [put_z]
            refine wpAnyH_take (i := 15) (v := ?_) rfl (by kernel_rfl) (by kernel_rfl) (by kernel_rfl) (fun _ _ _ h => h) (Or.inl ⟨by rfl, ?_⟩) (by assumption) ?_
            rotate_left
            · intro w hSw; (try dsimp only at hSw); go_simp; try with_reducible rfl
            try simp only [put_y]
            try simp only [Act.put]
            try simp only [put_z]
            refine wpAnyH_take (i := 16) (v := ?_) rfl (by kernel_rfl) (by kernel_rfl) (by kernel_rfl) (fun _ _ _ h => h) (Or.inl ⟨by rfl, ?_⟩) (by assumption) ?_
            rotate_left
            · intro w hSw; (try dsimp only at hSw); go_simp; try with_reducible rfl
            try simp only [put_y]
            try simp only [Act.put]
            try simp only [put_z]
            refine wpAnyH_takeC (i := 17) (v := ?v4) rfl (by kernel_rfl) (by kernel_rfl) (by kernel_rfl) (fun _ _ _ h => h) ⟨by rfl, ?f4, ?a4, ?r4, ?c4⟩ (by assumption) ?m4
            case r4 => intro w; go_simp; constructor <;> with_reducible rfl
            case c4 => intro W hSw; refine (CP.out x W).mono ?_; rintro e w' ⟨rfl, rfl⟩; constructor <;> with_reducible rfl
            try simp only [put_y]
            try simp only [Act.put]
            try simp only [put_z]
            refine wpAnyH_take (i := 18) (v := ?_) rfl (by kernel_rfl) (by kernel_rfl) (by kernel_rfl) (fun _ _ _ h => h) (Or.inl ⟨by rfl, ?_⟩) (by assumption) ?_
            rotate_left
            · intro w hSw; (try dsimp only at hSw); go_simp; try with_reducible rfl
            try simp only [put_y]
            try simp only [Act.put]
            try simp only [put_z]
            refine wpAnyH_ready (rs := [19]) (by kernel_rfl) (by simp) ?_
            refine AllReadyH.cons rfl (fun K hK => ?_) AllReadyH.nil
            go_simp
            refine CU.out.mono ?_
            rintro e w4 ⟨rfl, hF4, hu4'⟩
            have hu4 : Upd (w.heap.size ≤ ·) wr w4 := (Upd.refl.drew (S := fun i => w.heap.size ≤ i)).trans hu4' (fun _ _ h => h)
            have hmw : mb < w.heap.size := hmw
            have hup := HU2.out.dn (show k < n by omega) 1
            rw [HP.out] at hup
            have hT4 := uniG_T G2 ⟨y % (L.length : Int), x % (L.length : Int), 1, [], []⟩
            have HU4 := Lib.hid hup
            have hU4 := hu4.old hu (Nat.le_refl _)
            have hs4 := hU4.size
            have C7 := Lib.hid (f2Rebuild_c w4 w.heap.size gb2 gb1 _ G1 hF4 hs4 HU4.out.wf (by omega))
            unfold gp at C7
            clear hup v0 v1
            go_wp2_with fail
            refine hK.out _ _ ?_ (fun hHeld => ?_)
            · exact ⟨cell_upd hm0 hu4 (by omega), cell_upd hm1 hu4 (by omega)⟩
            clear hK K
            try simp only [put_y]
            try simp only [Act.put]
            try simp only [put_z]
            refine wpAnyH_done (by kernel_rfl) ?_ _
            go_wp2_with fail
            refine C7.out.mono ?_
            rintro e w6 ⟨nr, G3, hr, hnr, rfl, hF6, hu6⟩
            have hT6 := hr.T_
            have HU6 := Lib.hid (UInv.rebuilt hr HU4.out).1
            have HR6 := Lib.hid (UInv.rebuilt hr HU4.out).2
            have hU6 := hu6.old hU4 (Nat.le_refl _)
            clear hr
            go_wp2_with fail
            go_roundg k
            case measure => rw [Hg2.out]; omega
            case rel => exact ⟨k, G3, rfl, by omega, rfl, hF6.swap, HU6, HR6, by omega, hU6⟩
end Go.Proofs.Ytigambcefdeaoaa
