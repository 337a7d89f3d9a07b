/-
  What the reference's Classes does: it returns the congruence closure of the pairs.
-/
import Derived.Test.YtlehiklgbladoaaRJoin
import Derived.Test.YtlehiklgbladoaaRPass
import Derived.Test.YtlehiklgbladoaaClasses
import Derived.StillTailTactics
namespace Go.Proofs.Ytlehiklgbladoaa
open Go.RowKit

def RowO (w : World) (A : Option Addr) (l : List Nat) : Prop := l = [] ∨ ∃ g, A = some ⟨g, 0, none⟩ ∧ Row w g l
theorem RowO.upd {w w' : World} {A : Option Addr} {l : List Nat} {S : Nat → Prop} (h : RowO w A l) (u : Upd S w w') (d : ∀ k, At A k → ¬ S k) : RowO w' A l := by
  rcases h with h | ⟨g, rfl, h⟩
  · exact .inl h
  · exact .inr ⟨g, rfl, h.upd u (d g (At.some_.2 rfl))⟩
theorem joinL_range (n : Nat) (c : Nat → Nat) (a b : Nat) : joinL ((List.range n).map c) (min (c a) (c b)) (max (c a) (c b)) = (List.range n).map (joinc c a b) := by
  unfold joinL joinc; rw [List.map_map]; rfl
def rcells (k : Nat) : List Value := (List.range k).map fun (x : Nat) => Value.int .i64 (x : Int)
theorem rcells_succ (k : Nat) : rcells (k + 1) = rcells k ++ [.int .i64 (k : Int)] := by simp [rcells, List.range_succ]
theorem row_of_own {w : World} {A : Option Addr} {n c : Nat} (h : Own w 3 1 A n c (rcells n)) : RowO w A ((List.range n).map id) := by
  rcases h.cases with ⟨_, rfl, _, _⟩ | ⟨g, cur, rfl, hb, _, _, _, ht⟩
  · exact .inl rfl
  · refine .inr ⟨g, rfl, (cur.toList.drop n).toArray, ?_⟩
    have : cur = ints ((List.range n).map id) ++ (cur.toList.drop n).toArray := by
      apply Array.toList_inj.1
      rw [Nat.mul_one] at ht
      simp only [ints, Array.toList_append, List.map_id]
      rw [show (List.range n).map (fun (x : Nat) => Value.int .i64 (x : Int)) = cur.toList.take n from ht.symm]
      exact (List.take_append_drop n cur.toList).symm
    rw [← this]; exact hb

set_option maxHeartbeats 2000000 in
set_option maxRecDepth 100000 in
theorem rclasses_c (w : World) (F : Nat → Prop) (LA PA : Option Addr) (lc pc : Nat) (L : List Nd) (ps : List (Int × Int)) (hL : NodesV w F LA L) (hP : PairsV w F PA ps) (hn : L.length ≤ 100000) (hp : ps.length ≤ 140737488355328)
    (hk : ∀ nd ∈ L, NdOk nd) : Calls Try.prog 10 #[.slice LA L.length lc, .slice PA ps.length pc] w (ClassesPost L ps w) := by
  obtain ⟨n, Hn⟩ : ∃ n, Hid (L.length = n) := ⟨_, rfl⟩
  have HK := Lib.hid hk
  rw [Hn.out] at hn ⊢
  clear hk
  have hL := hL.mono (G := (· < w.heap.size)) (fun k hk _ => hk)
  go_enter Try.func10, Try.ntmps10
  go_wp2_with fail
  go_loopg [5, 6] n (fun g v i wr => ∃ (k cc : Nat) (A : Option Addr), Hid (g = n - k) ∧ k ≤ n ∧ i = .int .i64 k ∧ v = .slice A k cc ∧ Own wr 3 1 A k cc (rcells k) ∧ Hid (∀ j, At A j → w.heap.size ≤ j) ∧ Upd Non w wr)
  case atStart => exact ⟨0, 0, none, rfl, by omega, rfl, rfl, Own.none_, fun j hj => (At.none_ hj).elim, Upd.refl⟩
  case round =>
    obtain ⟨k, cc, A, Hg, hk, rfl, rfl, ho, HA, hu⟩ := hrel
    by_cases hlt : k < n
    · go_wp2_with (at_builtin; refine wpList_app rfl rfl T_ints rfl (ho.alloc _) rfl (Sl.new _ _ _) rfl (by simp [Value.oneCell']) (by simp only [maxLen]; omega) (by omega) ?_; intro A2 c2 w2 ho2 hu2 hat2)
      go_roundg (n - (k + 1))
      case measure => rw [Hg.out]; omega
      case rel =>
        refine ⟨k + 1, c2, A2, rfl, by omega, by go_num, rfl, by rw [rcells_succ]; exact ho2, fun j hj => ?_, (hu.alloc _).trans hu2 (fun i hi h => by have := HA.out i h; omega)⟩
        rcases hat2 j hj with h | h
        · exact HA.out j h
        · have := hu.size; simp at h; omega
    · obtain rfl : n = k := by omega
      have hro := row_of_own ho
      have hcc : n ≤ cc := by
        rcases ho.cases with ⟨_, h, _⟩ | ⟨_, _, _, _, h, _⟩ <;> omega
      clear ho
      go_wp2_with fail
      go_loopg [7] ps.length (fun g i wr => ∃ (k : Nat) (c : Nat → Nat), Hid (g = ps.length - k) ∧ k ≤ ps.length ∧ i = .int .i64 k ∧ RowO wr A ((List.range n).map c) ∧ Upd Non w wr ∧ Named n c ∧ Snd L ps c ∧
        Hid (∀ p ∈ ps.take k, inR L.length p.1 → inR L.length p.2 → c p.1.toNat = c p.2.toNat))
      case atStart => exact ⟨0, id, rfl, by omega, rfl, hro, hu, Named.id n, Snd.id L ps, by simp [Hid]⟩
      case round =>
        obtain ⟨k, c, Hg, hk, rfl, hr, hu2, hnm, hs, Hp⟩ := hrel
        clear hro hu
        by_cases hlt : k < ps.length
        · obtain ⟨pb, po, rfl, hFp, hpb, hp1, hp2⟩ := (hP.upd hu2 (fun _ _ _ f => f)).at_ hlt
          have HTK := Lib.hid (List.take_succ_eq_append_getElem hlt)
          have HMEM := Lib.hid (List.getElem_mem hlt)
          generalize ps[k] = q at *
          obtain ⟨qa, qb⟩ := q
          dsimp only at hp1 hp2
          by_cases hin : inR n qa ∧ inR n qb
          · obtain ⟨⟨ha0, ha1⟩, hb0, hb1⟩ := hin
            obtain ⟨a, rfl⟩ := Int.eq_ofNat_of_zero_le ha0
            obtain ⟨d, rfl⟩ := Int.eq_ofNat_of_zero_le hb0
            have hal : a < n := by omega
            have hdl : d < n := by omega
            rcases hr with hr | ⟨g, rfl, hr⟩
            · have := congrArg List.length hr; simp at this; omega
            have C1 := Lib.hid (join_c g a d cc wr ((List.range n).map c) (by simpa using hal) (by simpa using hdl) (by simp; omega) hr)
            simp only [List.getElem_map, List.getElem_range, joinL_range, List.length_map, List.length_range] at C1
            have hs2 : Snd L ps (joinc c a d) := hs.join (by rw [Hn.out]; exact hal) (by rw [Hn.out]; exact hdl) (fun e he => he.pair _ HMEM.out (by rw [Hn.out]; exact ⟨ha0, ha1⟩) (by rw [Hn.out]; exact ⟨hb0, hb1⟩))
            have Hp2 : Hid (∀ p ∈ ps.take (k + 1), inR L.length p.1 → inR L.length p.2 → joinc c a d p.1.toNat = joinc c a d p.2.toNat) := by
              intro p hp i1 i2
              rw [HTK.out] at hp
              rcases List.mem_append.1 hp with h | h
              · exact joinc_keeps (Hp.out p h i1 i2)
              · simp at h; subst h; exact joinc_pair a d
            have hnm2 := hnm.join hal hdl
            have hg := HA.out g (At.some_.2 rfl)
            go_wp2_with fail
            refine C1.out.mono ?_
            rintro e w1 ⟨rfl, hr1, hu1⟩
            have hu3 : Upd Non w w1 := hu2.trans hu1 (fun i hi h => by omega)
            clear C1
            go_wp2_with fail
            go_roundg (ps.length - (k + 1))
            case measure => rw [Hg.out]; omega
            case rel => exact ⟨k + 1, _, rfl, by omega, by go_num, .inr ⟨g, rfl, hr1⟩, hu3, hnm2, hs2, Hp2⟩
          · have Hp2 : Hid (∀ p ∈ ps.take (k + 1), inR L.length p.1 → inR L.length p.2 → c p.1.toNat = c p.2.toNat) := by
              intro p hp i1 i2
              rw [HTK.out] at hp
              rcases List.mem_append.1 hp with h | h
              · exact Hp.out p h i1 i2
              · simp at h; subst h; rw [Hn.out] at i1 i2; exact absurd ⟨i1, i2⟩ hin
            have HIN := Lib.hid hin
            clear hin
            go_wp2_with fail
            all_goals first
              | (exfalso; refine HIN.out ⟨⟨?_, ?_⟩, ?_, ?_⟩ <;> omega)
              | skip
            all_goals
              go_roundg (ps.length - (k + 1))
              case measure => rw [Hg.out]; omega
              case rel => exact ⟨k + 1, c, rfl, by omega, by go_num, hr, hu2, hnm, hs, Hp2⟩
        · obtain rfl : ps.length = k := by omega
          rw [List.take_length] at Hp
          clear hP hk
          go_wp2_with fail
          go_loopg [10] (2 * roots n c + 1) (fun g v wr => ∃ (on : Bool) (c : Nat → Nat), v = .bool on ∧ Hid (g = 2 * roots n c + on.toNat) ∧ RowO wr A ((List.range n).map c) ∧ Upd Non w wr ∧ Named n c ∧ Snd L ps c ∧ pairsIn L ps c ∧ Hid (on = false → IsCl L ps c))
          case atStart => exact ⟨true, c, rfl, rfl, hr, hu2, hnm, hs, Hp.out, by simp [Hid]⟩
          case round =>
            clear hr hu2 hs Hp Hg hnm
            obtain ⟨on, c, rfl, Hg, hr, hu2, hnm, hs, hp, Hcl⟩ := hrel
            cases on with
            | true =>
              clear Hcl
              obtain ⟨wo, rfl⟩ : ∃ wo : World, wo = wr := ⟨_, rfl⟩
              go_wp2_with fail
              go_loopg [11, 10] n (fun g i v wr => ∃ (j : Nat) (on : Bool) (c2 : Nat → Nat), Hid (g = n - j) ∧ j ≤ n ∧ i = .int .i64 j ∧ v = .bool on ∧ RowO wr A ((List.range n).map c2) ∧ Upd Non w wr ∧ PassR L ps c j 0 on c2)
              case atStart => exact ⟨0, false, c, rfl, by omega, rfl, rfl, hr, hu2, PassR.start (by rw [Hn.out]; exact hnm) hs hp⟩
              case round =>
                clear hr hu2 hnm hs hp
                obtain ⟨j, on, c2, Hg2, hj, rfl, rfl, hr, hu2, hps⟩ := hrel
                have HPS := Lib.hid hps
                clear hps
                by_cases hlt : j < n
                · go_wp2_with fail
                  go_loopg [12, 10] j (fun g i v wr => ∃ (k : Nat) (on : Bool) (c2 : Nat → Nat), Hid (g = j - k) ∧ k ≤ j ∧ i = .int .i64 k ∧ v = .bool on ∧ RowO wr A ((List.range n).map c2) ∧ Upd Non w wr ∧ PassR L ps c j k on c2)
                  case atStart => exact ⟨0, on, c2, rfl, by omega, rfl, rfl, hr, hu2, HPS.out⟩
                  case round =>
                    clear hr hu2 HPS
                    obtain ⟨k, on, c2, Hg3, hk, rfl, rfl, hr, hu2, hps⟩ := hrel
                    have HPS := Lib.hid hps
                    clear hps
                    by_cases hlt2 : k < j
                    · rcases hr with hr | ⟨g, rfl, hr⟩
                      · have := congrArg List.length hr; simp at this; omega
                      have hg := HA.out g (At.some_.2 rfl)
                      have hkn : k < n := by omega
                      have ck := hr.cell (k := k) (by simpa using hkn)
                      have cj := hr.cell (k := j) (by simpa using hlt)
                      rw [List.getElem_map, List.getElem_range] at ck cj
                      have hjL : j < L.length := by rw [Hn.out]; exact hlt
                      have hkL : k < L.length := by rw [Hn.out]; exact hkn
                      by_cases he : c2 k = c2 j
                      · have d : (((c2 k : Nat) : Int) != ((c2 j : Nat) : Int)) = false := by simp [he]
                        have hp2 := Lib.hid (HPS.out.skip hjL hkL (fun _ => he))
                        clear he
                        go_wp2_with fail
                        go_quiet (fail)
                        go_wp2_with fail
                        go_roundg (j - (k + 1))
                        case measure => rw [Hg3.out]; omega
                        case rel => exact ⟨k + 1, on, c2, rfl, by omega, by go_num, rfl, .inr ⟨g, rfl, hr.drewN _⟩, hu2.drewN _, hp2.out⟩
                      · have d : (((c2 k : Nat) : Int) != ((c2 j : Nat) : Int)) = true := by simp; omega
                        obtain ⟨lb, lo, rfl, hFl, hlb, h1, h2, KA, kc, h3, _, hki⟩ := (hL.upd hu2 (fun _ _ _ f => f)).at_ hkL
                        obtain ⟨lb', lo', e, _, _, h1', h2', KA', kc', h3', _, hki'⟩ := (hL.upd hu2 (fun _ _ _ f => f)).at_ hjL
                        obtain ⟨rfl, rfl⟩ : lb = lb' ∧ lo = lo' := by injection e with e; injection e with a b; exact ⟨a, b⟩
                        have hlen := (HK.out _ (List.getElem_mem hkL)).2.2
                        clear e
                        go_wp2_with fail
                        refine wp_region_still_tail 19 (by kernel_rfl) (by kernel_rfl) ?_
                        simp only [List.take_succ_cons, List.take_zero, List.drop_succ_cons, List.drop_zero]
                        repeat still_step
                        try refine wpStill_nil ?_
                        change wpList _ _ _ _ _ wr.drew
                        have C1 := Lib.hid (congruent_c g cc n wr.drew c2 _ L[k] L[j] KA KA' kc kc' hr hki hki' (by omega))
                        clear h1 h2 h3 h1' h2' h3' hki hki' ck cj
                        go_wp2_with fail
                        refine C1.out.mono ?_
                        rintro e w1 ⟨rfl, hu3⟩
                        have hr1 := (show Row wr.drew g _ from hr).upd hu3 (fun f => f)
                        have hu4 := hu2.then_non (Upd.refl.drew.then_non hu3)
                        clear C1 hr hu2 hu3
                        by_cases hcg : Cg n c2 L[k] L[j]
                        · have hd := decide_eq_true hcg
                          have hp2 := Lib.hid (HPS.out.join hjL hkL (by rw [Hn.out]; exact hcg) he)
                          rw [hd]
                          have C2 := Lib.hid (join_c g k j cc w1 ((List.range n).map c2) (by simpa using hkn) (by simpa using hlt) (by simp; omega) hr1)
                          simp only [List.getElem_map, List.getElem_range, joinL_range, List.length_map, List.length_range] at C2
                          clear hd hcg he
                          go_wp2_with fail
                          refine C2.out.mono ?_
                          rintro e w2 ⟨rfl, hr2, hu5⟩
                          have hu6 : Upd Non w w2 := hu4.trans hu5 (fun i hi h => by omega)
                          clear C2
                          go_wp2_with fail
                          go_roundg (j - (k + 1))
                          case measure => rw [Hg3.out]; omega
                          case rel => exact ⟨k + 1, true, _, rfl, by omega, by go_num, rfl, .inr ⟨g, rfl, hr2⟩, hu6, hp2.out⟩
                        · have hd := decide_eq_false hcg
                          have hp2 := Lib.hid (HPS.out.skip hjL hkL (fun h => absurd (by rw [Hn.out] at h; exact h) hcg))
                          rw [hd]
                          clear hd hcg he
                          go_wp2_with fail
                          go_roundg (j - (k + 1))
                          case measure => rw [Hg3.out]; omega
                          case rel => exact ⟨k + 1, on, c2, rfl, by omega, by go_num, rfl, .inr ⟨g, rfl, hr1⟩, hu4, hp2.out⟩
                    · obtain rfl : j = k := by omega
                      go_wp2_with fail
                      go_roundg (n - (j + 1))
                      case measure => rw [Hg2.out]; omega
                      case rel => exact ⟨j + 1, on, c2, rfl, by omega, by go_num, rfl, hr, hu2, HPS.out.next⟩
                · obtain rfl : n = j := by omega
                  go_wp2_with fail
                  go_roundg (2 * roots n c2 + on.toNat)
                  case measure =>
                    rw [Hg.out]
                    cases on with
                    | true =>
                      have := HPS.out.on_ rfl
                      rw [Hn.out] at this
                      simp; omega
                    | false => rw [(HPS.out.off rfl).1]; simp
                  case rel =>
                    refine ⟨on, c2, rfl, rfl, hr, hu2, by have := HPS.out.named; rw [Hn.out] at this; exact this, HPS.out.snd, HPS.out.prs, fun ho => ?_⟩
                    subst ho
                    have := HPS.out
                    rw [← Hn.out] at this
                    exact this.closed
            | false =>
              have hcl := Lib.hid (Hcl.out rfl)
              go_wp2_with fail
              go_ret
              refine ⟨c, A, cc, hcl.out, by rw [Hn.out]; rfl, ?_, ?_, hu2⟩
              · rw [Hn.out]; exact hcc
              · rcases hr with hr | ⟨g, rfl, hr⟩
                · have := congrArg List.length hr
                  simp at this
                  rw [Hn.out, this]; exact Ints.nil
                · have := hr.ints (F := (w.heap.size ≤ ·)) (HA.out g (At.some_.2 rfl))
                  rw [Hn.out]
                  simpa [Function.comp_def] using this
end Go.Proofs.Ytlehiklgbladoaa
