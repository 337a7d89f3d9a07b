/-
  What congruence.Classes does: it returns the congruence closure of the pairs.
-/
import Derived.Test.YtigambcefdeaoaaPass
import Derived.Test.YtigambcefdeaoaaSMap
import Derived.Test.YtigambcefdeaoaaViews
namespace Go.Proofs.Ytigambcefdeaoaa
open Go.RowKit

theorem T_ints : SlT Try.prog 22 3 1 8 := by
  obtain ⟨i, h1, h2, h3, h4⟩ := info_parts (show (Try.prog.info? 3).map (fun i => (i.zero, i.size, i.bytes)) = some (some (.int .i64 0), 1, 8) from by kernel_rfl)
  exact ⟨Try.underlying22, ⟨i, _, h1, h2, h3, h4, rfl⟩, by omega⟩
theorem T_uf : SlT Try.prog 97 3 1 8 := by
  obtain ⟨i, h1, h2, h3, h4⟩ := info_parts (show (Try.prog.info? 3).map (fun i => (i.zero, i.size, i.bytes)) = some (some (.int .i64 0), 1, 8) from by kernel_rfl)
  exact ⟨Try.underlying97, ⟨i, _, h1, h2, h3, h4, rfl⟩, by omega⟩
theorem zeroE (w : World) : (zeroValue 3).run Try.prog w = .ok (.int .i64 0) w := by kernel_rfl
theorem zero_int : (Try.prog.info? 3).bind (·.zero) = some (.int .i64 0) := by kernel_rfl

/-- The parents while they are being set. -/
def part (n k : Nat) : List Nat := List.range k ++ List.replicate (n - k) 0
theorem part_set {n k : Nat} (h : k < n) : (part n k).set k k = part n (k + 1) := by
  unfold part
  obtain ⟨m, rfl⟩ : ∃ m, n = k + 1 + m := ⟨n - (k + 1), by omega⟩
  have e1 : k + 1 + m - k = m + 1 := by omega
  have e2 : k + 1 + m - (k + 1) = m := by omega
  rw [e1, e2, List.replicate_succ, List.range_succ, List.set_append_right _ _ (by simp)]
  simp
theorem part_len {n k : Nat} (h : k ≤ n) : (part n k).length = n := by simp [part]; omega
theorem part_zero (n : Nat) : ints (part n 0) = Array.replicate n (Value.int .i64 0) := by simp [part, ints]
theorem part_all (n : Nat) : part n n = List.range n := by simp [part]
theorem rep_range (n : Nat) : Rep (List.range n) id := ⟨fun k h => by simp, fun k h => by simp, fun k h _ => rfl, fun k h => Nat.le_refl _, fun k h => rfl⟩

def mapV (m : ByteArray → Option Nat) : ByteArray → Option Value := fun s => (m s).map fun j => Value.int .i64 (j : Int)
theorem mapV_set {m : ByteArray → Option Nat} {s : ByteArray} {k : Nat} : (fun x => if x = s then some (Value.int .i64 (k : Int)) else mapV m x) = mapV (fun x => if x = s then some k else m x) := by
  funext x; unfold mapV; split <;> simp_all
def outL (c : Nat → Nat) (n k : Nat) : List Nat := (List.range k).map c ++ List.replicate (n - k) 0
theorem outL_set {c : Nat → Nat} {n k : Nat} (h : k < n) : (outL c n k).set k (c k) = outL c n (k + 1) := by
  unfold outL
  obtain ⟨m, rfl⟩ : ∃ m, n = k + 1 + m := ⟨n - (k + 1), by omega⟩
  have e1 : k + 1 + m - k = m + 1 := by omega
  have e2 : k + 1 + m - (k + 1) = m := by omega
  rw [e1, e2, List.replicate_succ, List.range_succ, List.set_append_right _ _ (by simp)]
  simp
theorem outL_len {c : Nat → Nat} {n k : Nat} (h : k ≤ n) : (outL c n k).length = n := by simp [outL]; omega
theorem outL_zero (c : Nat → Nat) (n : Nat) : ints (outL c n 0) = Array.replicate n (Value.int .i64 0) := by simp [outL, ints]
theorem outL_all (c : Nat → Nat) (n : Nat) : outL c n n = (List.range n).map c := by simp [outL]

theorem KeyRet.bad {n : Nat} {c : Nat → Nat} {op imm : Int} {kids : List Int} {e : Ending} (h : KeyRet n c op imm kids e) (hb : okKids n kids = false) : e = .returned (.tuple #[.string ⟨#[]⟩, .bool false]) := by
  unfold KeyRet at h; rw [hb] at h; simpa using h
theorem KeyRet.good {n : Nat} {c : Nat → Nat} {nd : Nd} {e : Ending} (h : KeyRet n c nd.op nd.imm nd.kids e) (hb : okKids n nd.kids = true) : e = .returned (.tuple #[.string (keyS c nd), .bool true]) := by
  unfold KeyRet at h; rw [hb] at h; simpa [keyS] using h

def ClassesPost (L : List Nd) (ps : List (Int × Int)) (w : World) (e : Ending) (w' : World) : Prop :=
  ∃ c A cc, IsCl L ps c ∧ e = .returned (.slice A L.length cc) ∧ L.length ≤ cc ∧ Ints w' (w.heap.size ≤ ·) A ((List.range L.length).map fun i => (c i : Int)) ∧ Upd Non w w'

set_option maxHeartbeats 1000000 in
set_option maxRecDepth 100000 in
theorem classes_c (w : World) (F : Nat → Prop) (LA PA : Option Addr) (lc pc : Nat) (L : List Nd) (ps : List (Int × Int)) (hL : NodesV w F LA L) (hP : PairsV w F PA ps) (hn : L.length ≤ 100000) (hp : ps.length ≤ 140737488355328)
    (hk : ∀ nd ∈ L, NdOk nd) : Calls Try.prog 32 #[.slice LA L.length lc, .slice PA ps.length pc] w (ClassesPost L ps w) := by
  obtain ⟨n, Hn⟩ : ∃ n, Hid (L.length = n) := ⟨_, rfl⟩
  have hmk := run_mk (P := Try.prog) T_uf zero_int rfl n (by rw [← Hn.out]; omega) (by rw [← Hn.out]; omega)
  have HK := Lib.hid hk
  rw [Hn.out] at hn ⊢
  clear hk
  have hL := hL.mono (G := (· < w.heap.size)) (fun k hk _ => hk)
  go_enter Try.func32, Try.ntmps32
  go_wp2_with fail
  go_loopg [24] n (fun g i wr => ∃ k : Nat, Hid (g = n - k) ∧ k ≤ n ∧ i = .int .i64 k ∧ Blk wr w.heap.size 3 (ints (part n k)) ∧ Upd Non w wr)
  case atStart => exact ⟨0, rfl, by omega, rfl, by rw [part_zero]; exact Blk.new _ _ _, Upd.refl.alloc _⟩
  case round =>
    obtain ⟨k, Hg, hk, rfl, hb, hu⟩ := hrel
    by_cases hlt : k < n
    · obtain ⟨y, cy⟩ : ∃ y : Nat, wr.cell? ⟨w.heap.size, k, none⟩ = some (.int .i64 y) := ⟨_, by rw [hb.cell, ints_at (by rw [part_len hk]; exact hlt)]⟩
      have cf := hb.frozen k
      have hb2 := hb.set_ k (.int .i64 (k : Int))
      rw [ints_set, part_set hlt] at hb2
      have hu2 := hu.setCell (p := ⟨w.heap.size, k, none⟩) (.inr (Nat.le_refl _)) (.int .i64 (k : Int))
      clear hmk
      go_wp2_with fail
      go_roundg (n - (k + 1))
      case measure => rw [Hg.out]; omega
      case rel => exact ⟨k + 1, rfl, by omega, by go_num, hb2, hu2⟩
    · obtain rfl : n = k := by omega
      have hb2 := hb
      rw [part_all] at hb2
      clear hb
      have hmk2 := run_mk (P := Try.prog) T_ints zero_int rfl n (by omega) (by omega)
      clear hmk
      go_wp2_with fail
      go_loopg [34] ps.length (fun g i wr => ∃ (k : Nat) (l' : List Nat) (c : Nat → Nat), Hid (g = ps.length - k) ∧ k ≤ ps.length ∧ i = .int .i64 k ∧ Rep l' c ∧ Hid (l'.length = n) ∧ Blk wr w.heap.size 3 (ints l') ∧ Upd Non w wr ∧ Snd L ps c ∧
        Hid (∀ p ∈ ps.take k, inR L.length p.1 → inR L.length p.2 → c p.1.toNat = c p.2.toNat))
      case atStart => exact ⟨0, List.range n, id, rfl, by omega, rfl, rep_range n, by simp [Hid], hb2, hu, Snd.id L ps, by simp [Hid]⟩
      case round =>
        obtain ⟨k, l', c, Hg, hk, rfl, hr, Hl, hb, hu2, hs, Hp⟩ := hrel
        clear hb2 hu
        by_cases hlt : k < ps.length
        · obtain ⟨pb, po, rfl, hFp, hpb, hp1, hp2⟩ := (hP.upd hu2 (fun _ _ _ f => f)).at_ hlt
          have HTK := Lib.hid (List.take_succ_eq_append_getElem hlt)
          have HMEM := Lib.hid (List.getElem_mem hlt)
          generalize ps[k] = q at *
          obtain ⟨qa, qb⟩ := q
          dsimp only at hp1 hp2
          by_cases hin : inR n qa ∧ inR n qb
          · obtain ⟨⟨ha0, ha1⟩, hb0, hb1⟩ := hin
            obtain ⟨a, rfl⟩ := Int.eq_ofNat_of_zero_le ha0
            obtain ⟨d, rfl⟩ := Int.eq_ofNat_of_zero_le hb0
            have hal : a < n := by omega
            have hdl : d < n := by omega
            have C1 := Lib.hid (union_c w.heap.size a d (wr.alloc (.cells #[.int .i64 a, .int .i64 d] 66)) l' c (by rw [Hl.out]; omega) (by rw [Hl.out]; omega) (hb.alloc _) hr)
            rw [Hl.out] at C1
            have hs2 : Snd L ps (joinc c a d) := hs.join (by rw [Hn.out]; exact hal) (by rw [Hn.out]; exact hdl) (fun e he => he.pair _ HMEM.out (by rw [Hn.out]; exact ⟨ha0, ha1⟩) (by rw [Hn.out]; exact ⟨hb0, hb1⟩))
            have Hp2 : Hid (∀ p ∈ ps.take (k + 1), inR L.length p.1 → inR L.length p.2 → joinc c a d p.1.toNat = joinc c a d p.2.toNat) := by
              intro p hp i1 i2
              rw [HTK.out] at hp
              rcases List.mem_append.1 hp with h | h
              · exact joinc_keeps (Hp.out p h i1 i2)
              · simp at h; subst h; exact joinc_pair a d
            go_wp2_with fail
            all_goals
              refine C1.out.mono ?_
              rintro e w1 ⟨rfl, l1, hl1, hr1, hb1, hu1⟩
              have Hl1 := Lib.hid hl1
              have hu3 : Upd Non w w1 := (hu2.alloc _).trans hu1 (fun i hi h => by omega)
              clear hl1 C1
              go_wp2_with fail
              go_roundg (ps.length - (k + 1))
              case measure => rw [Hg.out]; omega
              case rel => exact ⟨k + 1, l1, _, rfl, by omega, by go_num, hr1, Hl1, hb1, hu3, hs2, Hp2⟩
          · have Hp2 : Hid (∀ p ∈ ps.take (k + 1), inR L.length p.1 → inR L.length p.2 → c p.1.toNat = c p.2.toNat) := by
              intro p hp i1 i2
              rw [HTK.out] at hp
              rcases List.mem_append.1 hp with h | h
              · exact Hp.out p h i1 i2
              · simp at h; subst h; rw [Hn.out] at i1 i2; exact absurd ⟨i1, i2⟩ hin
            have HIN := Lib.hid hin
            clear hin
            have hb3 := hb.alloc (.cells #[.int .i64 qa, .int .i64 qb] 66)
            have hu3 := hu2.alloc (.cells #[.int .i64 qa, .int .i64 qb] 66)
            go_wp2_with fail
            all_goals first
              | (exfalso; refine HIN.out ⟨⟨?_, ?_⟩, ?_, ?_⟩ <;> omega)
              | skip
            all_goals
              go_roundg (ps.length - (k + 1))
              case measure => rw [Hg.out]; omega
              case rel => exact ⟨k + 1, l', c, rfl, by omega, by go_num, hr, Hl, hb3, hu3, hs, Hp2⟩
        · obtain rfl : ps.length = k := by omega
          rw [List.take_length] at Hp
          have hmm := @run_makeMap Try.prog
          clear hP hk
          go_wp2_with fail
          go_loopg [9] (2 * roots n c + 1) (fun g v wr => ∃ (on : Bool) (l' : List Nat) (c : Nat → Nat), v = .bool on ∧ Hid (g = 2 * roots n c + on.toNat) ∧ Rep l' c ∧ Hid (l'.length = n) ∧ Blk wr w.heap.size 3 (ints l') ∧ Upd Non w wr ∧ Snd L ps c ∧ pairsIn L ps c ∧ Hid (on = false → IsCl L ps c))
          case atStart => exact ⟨true, l', c, rfl, rfl, hr, Hl, hb, hu2, hs, Hp.out, by simp [Hid]⟩
          case round =>
            clear hr Hl hb hu2 hs Hp Hg
            obtain ⟨on, l', c, rfl, Hg, hr, Hl, hb, hu2, hs, hp, Hcl⟩ := hrel
            have hbo := hb.lt
            have Hnm : Hid (Named L.length c) := by show Named L.length c; rw [Hn.out, ← Hl.out]; exact hr.named
            cases on with
            | true =>
              clear Hcl hmk2
              obtain ⟨wo, rfl⟩ : ∃ wo : World, wo = wr := ⟨_, rfl⟩
              go_wp2_with fail
              go_loopg [65, 9] n (fun g i v wr' => ∃ (k : Nat) (on : Bool) (l2 : List Nat) (c2 : Nat → Nat) (m : ByteArray → Option Nat), Hid (g = n - k) ∧ k ≤ n ∧ i = .int .i64 k ∧ v = .bool on ∧ Rep l2 c2 ∧ Hid (l2.length = n) ∧ Blk wr' w.heap.size 3 (ints l2) ∧ Upd Non w wr' ∧ SMap wr' wo.heap.size (mapV m) ∧ Pass L ps c k on c2 m)
              case atStart => exact ⟨0, false, l', c, fun _ => none, rfl, by omega, rfl, rfl, hr, Hl, hb.alloc _, hu2.alloc _, SMap.new wo, Pass.start Hnm.out hs hp⟩
              case round =>
                clear hr Hl hb hs hp hmm
                obtain ⟨k, on, l2, c2, m, Hg2, hk, rfl, rfl, hr, Hl, hb, hu3, hsm, hps⟩ := hrel
                have hwo : w.heap.size < wo.heap.size := by have := hu2.size; have := hbo; omega
                by_cases hlt : k < n
                · have hkL : k < L.length := by rw [Hn.out]; exact hlt
                  obtain ⟨lb, lo, rfl, hFl, hlb, h1, h2, KA, kc, h3, _, hki⟩ := (hL.upd hu3 (fun _ _ _ f => f)).at_ hkL
                  have hnd := (HK.out _ (List.getElem_mem hkL)).2.2
                  have C1 := Lib.hid (key_c w.heap.size (wr.alloc (.cells #[.int .i64 L[k].op, .int .i64 L[k].imm, .slice KA L[k].kids.length kc] 24)) l2 c2 (hb.alloc _) hr L[k].op L[k].imm L[k].kids KA kc (· < w.heap.size) (fun k h => by omega) (hki.upd (Upd.refl.alloc _ (S := Non)) (fun _ _ _ f => f)) hnd)
                  rw [Hl.out] at C1
                  have hsm1 := hsm.upd (Upd.refl.alloc (.cells #[.int .i64 L[k].op, .int .i64 L[k].imm, .slice KA L[k].kids.length kc] 24) (S := Non)) (fun f => f)
                  clear hki hnd
                  go_wp2_with fail
                  refine C1.out.mono ?_
                  rintro e w1 ⟨hret, l3, hl3, hr3, hb3, hu4⟩
                  have Hl3 := Lib.hid hl3
                  have hsm3 := hsm1.upd hu4 (by omega)
                  have hu5 : Upd Non w w1 := (hu3.alloc _).trans hu4 (fun i hi h => by omega)
                  clear hl3 C1 hsm1 h1 h2 h3 hb hr Hl hu3 hu4 hsm
                  have HPS := Lib.hid hps
                  clear hps
                  cases hok : okKids n L[k].kids with
                  | false =>
                    obtain rfl := hret.bad hok
                    have HOK := Lib.hid hok
                    clear hok hret
                    go_wp2_with fail
                    go_roundg (n - (k + 1))
                    case measure => rw [Hg2.out]; omega
                    case rel => exact ⟨k + 1, on, l3, c2, m, rfl, by omega, by go_num, rfl, hr3, Hl3, hb3, hu5, hsm3, HPS.out.bad hkL (by rw [Hn.out]; exact HOK.out)⟩
                  | true =>
                    obtain rfl := hret.good hok
                    have HOK := Lib.hid hok
                    clear hok hret
                    have hlook := hsm3.look Try.underlying70 Try.underlying9 (zeroE _) (keyS c2 L[k])
                    cases hm : m (keyS c2 L[k]) with
                    | none =>
                      have hv : mapV m (keyS c2 L[k]) = none := by simp [mapV, hm]
                      rw [hv] at hlook
                      simp only [Option.getD_none, Option.isSome_none] at hlook
                      obtain ⟨w2, hst, hsm4, hu6⟩ := hsm3.store Try.underlying70 Try.underlying9 (keyS c2 L[k]) (.int .i64 (k : Int))
                      rw [mapV_set] at hsm4
                      have hp2 := Lib.hid (HPS.out.fresh hkL (by rw [Hn.out]; exact HOK.out) hm)
                      have hb4 := hb3.upd hu6 (by omega)
                      have hu7 : Upd Non w w2 := hu5.trans hu6 (fun i hi h => by omega)
                      clear hv hm hsm3
                      go_wp2_with fail
                      go_roundg (n - (k + 1))
                      case measure => rw [Hg2.out]; omega
                      case rel => exact ⟨k + 1, on, l3, c2, _, rfl, by omega, by go_num, rfl, hr3, Hl3, hb4, hu7, hsm4, hp2.out⟩
                    | some j =>
                      have hv : mapV m (keyS c2 L[k]) = some (.int .i64 (j : Int)) := by simp [mapV, hm]
                      rw [hv] at hlook
                      simp only [Option.getD_some, Option.isSome_some] at hlook
                      have hjl : j < n := by rw [← Hn.out]; exact (HPS.out.ent _ _ hm).2.1
                      have C2 := Lib.hid (union_c w.heap.size k j w1 l3 c2 (by rw [Hl3.out]; exact hlt) (by rw [Hl3.out]; exact hjl) hb3 hr3)
                      rw [Hl3.out] at C2
                      have HM := Lib.hid hm
                      clear hv hm
                      go_wp2_with fail
                      refine C2.out.mono ?_
                      rintro e w2 ⟨rfl, l4, hl4, hr4, hb4, hu6⟩
                      have Hl4 := Lib.hid hl4
                      have hsm4 := hsm3.upd hu6 (by omega)
                      have hu7 : Upd Non w w2 := hu5.trans hu6 (fun i hi h => by omega)
                      clear hl4 C2 hsm3 hlook
                      by_cases hc : c2 k = c2 j
                      · have hd : decide (c2 k ≠ c2 j) = false := by simp [hc]
                        have hp2 := Lib.hid (HPS.out.same hkL HM.out hc)
                        rw [joinc_same hc] at hr4
                        rw [hd]
                        clear hc hd
                        go_wp2_with fail
                        go_roundg (n - (k + 1))
                        case measure => rw [Hg2.out]; omega
                        case rel => exact ⟨k + 1, on, l4, c2, m, rfl, by omega, by go_num, rfl, hr4, Hl4, hb4, hu7, hsm4, hp2.out⟩
                      · have hd : decide (c2 k ≠ c2 j) = true := by simp [hc]
                        have hp2 := Lib.hid (HPS.out.join HK.out (by rw [Hn.out]; exact hn) hkL (by rw [Hn.out]; exact HOK.out) HM.out hc)
                        rw [hd]
                        clear hc hd
                        go_wp2_with fail
                        go_roundg (n - (k + 1))
                        case measure => rw [Hg2.out]; omega
                        case rel => exact ⟨k + 1, true, l4, _, m, rfl, by omega, by go_num, rfl, hr4, Hl4, hb4, hu7, hsm4, hp2.out⟩
                · obtain rfl : n = k := by omega
                  have HPS := Lib.hid hps
                  clear hps
                  go_wp2_with fail
                  go_roundg (2 * roots n c2 + on.toNat)
                  case measure =>
                    rw [Hg.out]
                    cases on with
                    | true =>
                      have := HPS.out.on_ rfl
                      rw [Hn.out] at this
                      simp; omega
                    | false => rw [(HPS.out.off rfl).1]; simp
                  case rel =>
                    refine ⟨on, l2, c2, rfl, rfl, hr, Hl, hb, hu3, HPS.out.snd, HPS.out.prs, fun ho => ?_⟩
                    subst ho
                    have := HPS.out
                    rw [← Hn.out] at this
                    exact this.closed
            | false =>
              have hcl := Lib.hid (Hcl.out rfl)
              have hbn := hb.alloc (.cells (Array.replicate n (.int .i64 0)) 3)
              clear Hcl hs hp Hnm
              obtain ⟨wo, rfl⟩ : ∃ wo : World, wo = wr := ⟨_, rfl⟩
              go_wp2_with fail
              go_loopg [99] n (fun g i wr => ∃ (k : Nat) (l2 : List Nat), Hid (g = n - k) ∧ k ≤ n ∧ i = .int .i64 k ∧ Rep l2 c ∧ Hid (l2.length = n) ∧ Blk wr w.heap.size 3 (ints l2) ∧ Blk wr wo.heap.size 3 (ints (outL c n k)) ∧ Upd Non w wr)
              case atStart => exact ⟨0, l', rfl, by omega, rfl, hr, Hl, hbn, by rw [outL_zero]; exact Blk.new _ _ _, hu2.alloc _⟩
              case round =>
                clear hbn hr Hl hb
                obtain ⟨k, l2, Hg2, hk, rfl, hr, Hl, hb, hbo2, hu3⟩ := hrel
                have hwo : w.heap.size < wo.heap.size := by have := hu2.size; have := hbo; omega
                by_cases hlt : k < n
                · have C1 := Lib.hid (find_c w.heap.size k wr l2 c (by rw [Hl.out]; exact hlt) hb hr)
                  rw [Hl.out] at C1
                  go_wp2_with fail
                  refine C1.out.mono ?_
                  rintro e w1 ⟨rfl, l3, hl3, hr3, hb3, hu4⟩
                  have Hl3 := Lib.hid hl3
                  have hbo3 := hbo2.upd hu4 (by omega)
                  have hu5 : Upd Non w w1 := hu3.trans hu4 (fun i hi h => by omega)
                  obtain ⟨y, cy⟩ : ∃ y : Nat, w1.cell? ⟨wo.heap.size, k, none⟩ = some (.int .i64 y) := ⟨_, by rw [hbo3.cell, ints_at (by rw [outL_len hk]; exact hlt)]⟩
                  have cf := hbo3.frozen k
                  have hbo4 := hbo3.set_ k (.int .i64 (c k : Nat))
                  rw [ints_set, outL_set hlt] at hbo4
                  have hb4 := hb3.far (p := ⟨wo.heap.size, k, none⟩) (show w.heap.size ≠ wo.heap.size by omega) (.int .i64 (c k : Nat))
                  have hu6 := hu5.setCell (p := ⟨wo.heap.size, k, none⟩) (.inr (show w.heap.size ≤ wo.heap.size by omega)) (.int .i64 (c k : Nat))
                  clear C1 hl3 hb hbo2 hbo3
                  go_wp2_with fail
                  go_roundg (n - (k + 1))
                  case measure => rw [Hg2.out]; omega
                  case rel => exact ⟨k + 1, l3, rfl, by omega, by go_num, hr3, Hl3, hb4, hbo4, hu6⟩
                · obtain rfl : n = k := by omega
                  rw [outL_all] at hbo2
                  go_wp2_with fail
                  go_ret
                  refine ⟨c, some ⟨wo.heap.size, 0, none⟩, n, hcl.out, by rw [Hn.out]; rfl, by rw [Hn.out]; exact Nat.le_refl _, ?_, hu3⟩
                  have := Sl.of_blk (F := (w.heap.size ≤ ·)) (by show _ ≤ _; omega) hbo2 n
                  rw [Hn.out]
                  unfold Ints
                  rw [List.take_of_length_le (by simp [ints])] at this
                  simpa [ints, Function.comp_def] using this
end Go.Proofs.Ytigambcefdeaoaa
