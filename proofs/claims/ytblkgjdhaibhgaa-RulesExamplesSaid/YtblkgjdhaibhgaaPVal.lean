/-
  What pattern.Valid does.
-/
import Derived.Test.YtblkgjdhaibhgaaPtV
import Derived.OwnWalk
namespace Go.Proofs.Ytblkgjdhaibhgaa
open Go.RowKit

def hasImmF (op : Int) : Bool := decide (op = 1 ∨ op = 23 ∨ op = 27 ∨ op = 28)
/-- The sorts of an operation's operands, its own sort, and whether it may occur. -/
def oSortsF (op : Int) : List Int × Int × Bool :=
  if op = 1 then ([], 1, true) else if op = 23 then ([2, 1], 1, true) else if op = 24 then ([2], 1, true) else if op = 27 ∨ op = 29 then ([2, 1], 2, true) else if op = 28 then ([2, 1, 1], 2, true)
  else if 4 ≤ op ∧ op ≤ 22 then ((if op = 20 ∨ op = 21 then [1] else if op = 22 then [1, 1, 1] else [1, 1]), 1, true) else ([], 0, false)
def pImmF (p : Pt) (imms : Int) : Bool :=
  if p.iv ≠ 0 then hasImmF p.op && decide (p.imm = 0 ∧ 1 ≤ p.iv ∧ p.iv ≤ imms) else if p.op = 23 ∨ p.op = 28 then decide (0 ≤ p.imm ∧ p.imm < 4) else if p.op = 27 then decide (1 ≤ p.imm ∧ p.imm ≤ 1000016) else decide (p.op = 1 ∨ p.imm = 0)

theorem ptArity_c (op : Int) (w : World) : Calls Try.prog 89 #[.int .i64 op] w fun e w' => e = .returned (.tuple #[.int .i64 (arityF op).1, .bool (arityF op).2]) ∧ w = w' := by
  go_enter Try.func89, Try.ntmps89
  go_wp2
  all_goals
    go_ret2
    refine ⟨?_, rfl⟩
    (try simp only [beq_iff_eq, beq_eq_false_iff_ne, ne_eq] at *)
    unfold arityF
    (repeat' split) <;> first | rfl | (exfalso; omega)
theorem ptHasImm_c (op : Int) (w : World) : Calls Try.prog 90 #[.int .i64 op] w fun e w' => e = .returned (.bool (hasImmF op)) ∧ w = w' := by
  go_enter Try.func90, Try.ntmps90
  go_wp2
  all_goals
    go_ret
    refine ⟨?_, rfl⟩
    show Ending.returned (Value.bool _) = _
    congr 2
    unfold hasImmF
    (try simp only [beq_iff_eq, beq_eq_false_iff_ne, ne_eq] at *)
    rw [Bool.eq_iff_iff]
    simp
    omega
theorem ptOpSorts_c (op : Int) (w : World) : Calls Try.prog 86 #[.int .i64 op] w fun e w' => ∃ A c, e = .returned (.tuple #[.slice A (oSortsF op).1.length c, .int .i64 (oSortsF op).2.1, .bool (oSortsF op).2.2]) ∧ Ints w' (fun k => w.heap.size ≤ k) A (oSortsF op).1 ∧ Upd Non w w' := by
  have C1 := Lib.hid (fun w => ptArity_c op w)
  have hI : ∀ (w : World) (xs : List Int) (cs : Array Value), cs = (xs.map fun x => Value.int .i64 x).toArray → Ints (w.alloc (.cells cs 3)) (fun k => w.heap.size ≤ k) (some ⟨w.heap.size, 0, none⟩) xs := fun w xs cs h => by
    have := Sl.new w 3 (xs.map fun x => Value.int .i64 x)
    rw [← h] at this
    exact this.mono (fun k _ hk => by have : k = w.heap.size := hk; omega)
  by_cases h4 : 4 ≤ op ∧ op ≤ 22
  · obtain ⟨m, hm, ha, ho⟩ : ∃ m : Nat, 1 ≤ m ∧ (m ≤ 3 ∧ arityF op = ((m : Int), true)) ∧ oSortsF op = (([1, 1, 1] : List Int).take m, 1, true) := by
      have h0 : oSortsF op = ((if op = 20 ∨ op = 21 then [1] else if op = 22 then [1, 1, 1] else [1, 1]), 1, true) := by
        unfold oSortsF
        rw [if_neg (by omega), if_neg (by omega), if_neg (by omega), if_neg (by omega), if_neg (by omega), if_pos h4]
      by_cases h1 : op = 20 ∨ op = 21
      · refine ⟨1, by omega, ⟨by omega, ?_⟩, by rw [h0, if_pos h1]; rfl⟩
        unfold arityF; rw [if_neg (by omega), if_pos (by omega)]; rfl
      · by_cases h2 : op = 22
        · refine ⟨3, by omega, ⟨by omega, ?_⟩, by rw [h0, if_neg h1, if_pos h2]; rfl⟩
          unfold arityF; rw [if_neg (by omega), if_neg (by omega), if_neg (by omega), if_pos (by omega)]; rfl
        · refine ⟨2, by omega, ⟨by omega, ?_⟩, by rw [h0, if_neg h1, if_neg h2]; rfl⟩
          unfold arityF; rw [if_neg (by omega), if_neg (by omega), if_pos (by omega)]; rfl
    obtain ⟨hm3, ha⟩ := ha
    rw [ha] at C1
    have ho := Lib.hid ho
    have hl : (([1, 1, 1] : List Int).take m).length = m := by simp; omega
    rw [ho.out, hl]
    have n1 : (op == 1) = false := by rw [beq_eq_false_iff_ne]; omega
    have n2 : (op == 23) = false := by rw [beq_eq_false_iff_ne]; omega
    have n3 : (op == 24) = false := by rw [beq_eq_false_iff_ne]; omega
    have n4 : (op == 27) = false := by rw [beq_eq_false_iff_ne]; omega
    have n5 : (op == 29) = false := by rw [beq_eq_false_iff_ne]; omega
    have n6 : (op == 28) = false := by rw [beq_eq_false_iff_ne]; omega
    have n7 : decide (op < 4) = false := decide_eq_false (by omega)
    have n8 : decide (op > 22) = false := decide_eq_false (by omega)
    have r1 : (0 : Int) ≤ (m : Int) := by omega
    have r2 : (m : Int) ≤ 3 := by omega
    clear ha h4 hl
    go_enter Try.func86, Try.ntmps86
    go_wp2_with fail
    refine (C1.out _).mono ?_
    rintro e w1 ⟨rfl, rfl⟩
    go_wp2_with fail
    go_ret3
    refine ⟨some ⟨w.heap.size, 0, none⟩, 3, rfl, ?_, Upd.refl.alloc _⟩
    exact (hI w [1, 1, 1] _ rfl).take_ m
  · have c1 : op = 1 ∨ op = 23 ∨ op = 24 ∨ op = 27 ∨ op = 29 ∨ op = 28 ∨ (op ≠ 1 ∧ op ≠ 23 ∧ op ≠ 24 ∧ op ≠ 27 ∧ op ≠ 29 ∧ op ≠ 28) := by omega
    rcases c1 with rfl | rfl | rfl | rfl | rfl | rfl | hne
    · clear C1
      go_enter Try.func86, Try.ntmps86
      go_wp2_with fail
      go_ret3
      exact ⟨none, 0, rfl, .nil, Upd.refl⟩
    · clear C1
      go_enter Try.func86, Try.ntmps86
      go_wp2_with fail
      go_ret3
      exact ⟨_, 2, rfl, hI w [2, 1] _ rfl, Upd.refl.alloc _⟩
    · clear C1
      go_enter Try.func86, Try.ntmps86
      go_wp2_with fail
      go_ret3
      exact ⟨_, 1, rfl, hI w [2] _ rfl, Upd.refl.alloc _⟩
    · clear C1
      go_enter Try.func86, Try.ntmps86
      go_wp2_with fail
      go_ret3
      exact ⟨_, 2, rfl, hI w [2, 1] _ rfl, Upd.refl.alloc _⟩
    · clear C1
      go_enter Try.func86, Try.ntmps86
      go_wp2_with fail
      go_ret3
      exact ⟨_, 2, rfl, hI w [2, 1] _ rfl, Upd.refl.alloc _⟩
    · clear C1
      go_enter Try.func86, Try.ntmps86
      go_wp2_with fail
      go_ret3
      exact ⟨_, 3, rfl, hI w [2, 1, 1] _ rfl, Upd.refl.alloc _⟩
    · obtain ⟨m1, m2, m3, m4, m5, m6⟩ := hne
      have ho : Hid (oSortsF op = ([], 0, false)) := by
        show _ = _
        unfold oSortsF
        rw [if_neg m1, if_neg m2, if_neg m3, if_neg (by omega), if_neg m6, if_neg h4]
      rw [ho.out]
      have n1 : (op == 1) = false := by rw [beq_eq_false_iff_ne]; omega
      have n2 : (op == 23) = false := by rw [beq_eq_false_iff_ne]; omega
      have n3 : (op == 24) = false := by rw [beq_eq_false_iff_ne]; omega
      have n4 : (op == 27) = false := by rw [beq_eq_false_iff_ne]; omega
      have n5 : (op == 29) = false := by rw [beq_eq_false_iff_ne]; omega
      have n6 : (op == 28) = false := by rw [beq_eq_false_iff_ne]; omega
      obtain ⟨z, Hz⟩ : ∃ z, arityF op = z := ⟨_, rfl⟩
      rw [Hz] at C1
      obtain ⟨x, y⟩ := z
      dsimp only at C1
      clear Hz
      by_cases hlt : op < 4
      · have n7 : decide (op < 4) = true := decide_eq_true hlt
        cases y <;>
        · go_enter Try.func86, Try.ntmps86
          go_wp2_with fail
          refine (C1.out _).mono ?_
          rintro e w1 ⟨rfl, rfl⟩
          go_wp2_with fail
          go_ret3
          exact ⟨none, 0, rfl, .nil, Upd.refl⟩
      · have n7 : decide (op < 4) = false := decide_eq_false hlt
        have n8 : decide (op > 22) = true := decide_eq_true (by omega)
        cases y <;>
        · go_enter Try.func86, Try.ntmps86
          go_wp2_with fail
          refine (C1.out _).mono ?_
          rintro e w1 ⟨rfl, rfl⟩
          go_wp2_with fail
          go_ret3
          exact ⟨none, 0, rfl, .nil, Upd.refl⟩

set_option maxHeartbeats 4000000 in
theorem ptValidImm_c (p : Pt) (KA : Option Addr) (kc : Nat) (imms : Int) (w : World) : Calls Try.prog 87 #[pv p KA kc, .int .i64 imms] w fun e w' => e = .returned (.bool (pImmF p imms)) ∧ Upd Non w w' := by
  obtain ⟨v, op, imm, iv, kids⟩ := p
  obtain ⟨W, HW⟩ := nm (w.alloc (.cells #[.int .i64 v, .int .i64 op, .int .i64 imm, .int .i64 iv, .slice KA kids.length kc] 30))
  have hU : Upd Non w W := by rw [← HW.out]; exact Upd.refl.alloc _
  have hb : Blk W w.heap.size 30 #[.int .i64 v, .int .i64 op, .int .i64 imm, .int .i64 iv, .slice KA kids.length kc] := by rw [← HW.out]; exact Blk.new _ _ _
  have e0 := HW.out
  have c1 := hb.cell 1
  have c2 := hb.cell 2
  have c3 := hb.cell 3
  have C1 := Lib.hid (fun W => ptHasImm_c op W)
  obtain ⟨R, HR⟩ := nm (pImmF (.mk v op imm iv kids) imms)
  rw [HR.out]
  unfold pv
  simp only [Pt.v, Pt.op, Pt.imm, Pt.iv, Pt.kids]
  obtain ⟨hi, Hhi⟩ := nm (hasImmF op)
  rw [Hhi.out] at C1
  have HF : Hid (R = if iv ≠ 0 then hi && decide (imm = 0 ∧ 1 ≤ iv ∧ iv ≤ imms) else if op = 23 ∨ op = 28 then decide (0 ≤ imm ∧ imm < 4) else if op = 27 then decide (1 ≤ imm ∧ imm ≤ 1000016) else decide (op = 1 ∨ imm = 0)) := by show _ = _; rw [← HR.out, ← Hhi.out]; rfl
  obtain ⟨b1, f1⟩ : ∃ b, (op == 23) = b := ⟨_, rfl⟩
  obtain ⟨b2, f2⟩ : ∃ b, (op == 28) = b := ⟨_, rfl⟩
  obtain ⟨b3, f3⟩ : ∃ b, (op == 27) = b := ⟨_, rfl⟩
  obtain ⟨b4, f4⟩ : ∃ b, (op == 1) = b := ⟨_, rfl⟩
  obtain ⟨b5, f5⟩ : ∃ b, decide (imm ≥ 0) = b := ⟨_, rfl⟩
  obtain ⟨b6, f6⟩ : ∃ b, decide (imm < 4) = b := ⟨_, rfl⟩
  obtain ⟨b7, f7⟩ : ∃ b, decide (imm ≥ 1) = b := ⟨_, rfl⟩
  obtain ⟨b8, f8⟩ : ∃ b, decide (imm ≤ 1000016) = b := ⟨_, rfl⟩
  obtain ⟨b9, f9⟩ : ∃ b, (imm == 0) = b := ⟨_, rfl⟩
  obtain ⟨b10, f10⟩ : ∃ b, decide (iv ≥ 1) = b := ⟨_, rfl⟩
  obtain ⟨b11, f11⟩ : ∃ b, decide (iv ≤ imms) = b := ⟨_, rfl⟩
  have close : ∀ x : Bool, (Hid (x = (if iv ≠ 0 then hi && (b9 && (b10 && b11)) else if b1 || b2 then b5 && b6 else if b3 then b7 && b8 else b4 || b9))) → x = R := fun x hx => by
    rw [hx.out, HF.out, ← f1, ← f2, ← f3, ← f4, ← f5, ← f6, ← f7, ← f8, ← f9, ← f10, ← f11]
    by_cases a1 : iv = 0
    · by_cases a2 : op = 23 <;> by_cases a3 : op = 28 <;> by_cases a4 : op = 27 <;> simp [a1, a2, a3, a4, Bool.beq_eq_decide_eq, Bool.decide_and, Bool.decide_or]
    · cases hi <;> by_cases a5 : imm = 0 <;> simp [a1, a5, Bool.beq_eq_decide_eq, Bool.decide_and]
  have Hcl := Lib.hid close
  by_cases h1 : iv = 0
  · have t1 : (iv != 0) = false := by simpa using h1
    clear HF HR close
    have h1 := Lib.hid h1
    cases b1 with
    | true =>
      cases b5 <;> cases b6
      all_goals
        go_enter Try.func87, Try.ntmps87
        go_wp2_with fail
        go_ret
        refine ⟨congrArg (fun b => Ending.returned (Value.bool b)) (Hcl.out _ ?_), by first | exact hU | exact Upd.refl.alloc _⟩
        show _ = _
        rw [if_neg (fun q => q h1.out)]; rfl
    | false =>
      cases b2 with
      | true =>
        cases b5 <;> cases b6
        all_goals
          go_enter Try.func87, Try.ntmps87
          go_wp2_with fail
          go_ret
          refine ⟨congrArg (fun b => Ending.returned (Value.bool b)) (Hcl.out _ ?_), by first | exact hU | exact Upd.refl.alloc _⟩
          show _ = _
          rw [if_neg (fun q => q h1.out)]; rfl
      | false =>
        cases b3 with
        | true =>
          cases b7 <;> cases b8
          all_goals
            go_enter Try.func87, Try.ntmps87
            go_wp2_with fail
            go_ret
            refine ⟨congrArg (fun b => Ending.returned (Value.bool b)) (Hcl.out _ ?_), by first | exact hU | exact Upd.refl.alloc _⟩
            show _ = _
            rw [if_neg (fun q => q h1.out)]; rfl
        | false =>
          cases b4 <;> cases b9
          all_goals
            go_enter Try.func87, Try.ntmps87
            go_wp2_with fail
            go_ret
            refine ⟨congrArg (fun b => Ending.returned (Value.bool b)) (Hcl.out _ ?_), by first | exact hU | exact Upd.refl.alloc _⟩
            show _ = _
            rw [if_neg (fun q => q h1.out)]; rfl
  · have t1 : (iv != 0) = true := by simpa using h1
    clear HF HR close
    have h1 := Lib.hid h1
    cases hi <;> cases b9 <;> cases b10 <;> cases b11
    all_goals
      go_enter Try.func87, Try.ntmps87
      go_wp2_with fail
      refine (C1.out _).mono ?_
      rintro e w1 ⟨rfl, rfl⟩
      go_wp2_with fail
      go_ret
      refine ⟨congrArg (fun b => Ending.returned (Value.bool b)) (Hcl.out _ ?_), by first | exact hU | exact Upd.refl.alloc _⟩
      show _ = _
      rw [if_pos h1.out]; rfl
end Go.Proofs.Ytblkgjdhaibhgaa
