/-
  What the reference's Evaluate does, for a pattern of the shape of a valid one.
-/
import Derived.Test.YtnefhokojbkppaaPolyP
import Derived.Test.YtnefhokojbkppaaMild
namespace Go.Proofs.Ytnefhokojbkppaa
open Go.RowKit

theorem T_i64s : SlT Try.prog 34 2 1 8 := by
  obtain ⟨i, h1, h2, h3, h4⟩ := info_parts (show (Try.prog.info? 2).map (fun i => (i.zero, i.size, i.bytes)) = some (some (.int .i64 0), 1, 8) from by kernel_rfl)
  exact ⟨Try.underlying34, ⟨i, _, h1, h2, h3, h4, rfl⟩, by omega⟩
def allS : List (Option Int) → Option (List Int)
  | [] => some []
  | none :: _ => none
  | some x :: l => match allS l with
    | none => none
    | some r => some (x :: r)
theorem allS_snoc : ∀ (l : List (Option Int)) (x : Option Int), allS (l ++ [x]) = match allS l, x with | some r, some y => some (r ++ [y]) | _, _ => none
  | [], none => rfl
  | [], some _ => rfl
  | none :: l, x => by simp only [List.cons_append, allS]
  | some a :: l, x => by
    simp only [List.cons_append, allS, allS_snoc l x]
    cases allS l <;> cases x <;> rfl
theorem allS_none : ∀ {l : List (Option Int)}, none ∈ l → allS l = none
  | none :: l, _ => rfl
  | some a :: l, h => by
    have := allS_none (l := l) (by simpa using h)
    simp only [allS, this]
/-- The value of an operation. -/
def evOp (op imm iv : Int) (k : List Int) : Option Int :=
  if 0 < iv then none else if op = 1 then some imm else if op = 20 ∨ op = 21 then some (unF op (k.getD 0 0)) else if 4 ≤ op ∧ op ≤ 19 then some (binF op (k.getD 0 0) (k.getD 1 0))
  else if op = 22 then some (if k.getD 0 0 ≠ 0 then k.getD 1 0 else k.getD 2 0) else none
mutual
/-- The value of a pattern for given words; none where it holds other operations than those on words. -/
def evF (ins : List Int) : Pt → Option Int
  | .mk v op imm iv kids => if 0 < v then some (ins.getD (v - 1).toNat 0) else match allS (evL ins kids) with | none => none | some k => evOp op imm iv k
def evL (ins : List Int) : List Pt → List (Option Int)
  | [] => []
  | k :: ks => evF ins k :: evL ins ks
end
theorem evL_eq (ins : List Int) : ∀ l : List Pt, evL ins l = l.map (evF ins)
  | [] => by simp only [evL, List.map_nil]
  | k :: ks => by simp only [evL, evL_eq ins ks, List.map_cons]
theorem evF_eq (ins : List Int) (p : Pt) : evF ins p = if 0 < p.v then some (ins.getD (p.v - 1).toNat 0) else match allS (p.kids.map (evF ins)) with | none => none | some k => evOp p.op p.imm p.iv k := by
  obtain ⟨v, op, imm, iv, kids⟩ := p
  rw [evF, evL_eq]
  rfl
/-- What Evaluate hands back. -/
def evR (o : Option Int) : Ending := .returned (.tuple #[.int .i64 (o.getD 0), .bool o.isSome])
theorem oSorts_len (op : Int) : ((op = 20 ∨ op = 21) → (oSortsF op).1.length = 1) ∧ (4 ≤ op ∧ op ≤ 19 → (oSortsF op).1.length = 2) ∧ (op = 22 → (oSortsF op).1.length = 3) := by
  refine ⟨fun h => ?_, fun h => ?_, fun h => ?_⟩
  · rcases h with rfl | rfl <;> rfl
  · unfold oSortsF
    rw [if_neg (by omega), if_neg (by omega), if_neg (by omega), if_neg (by omega), if_neg (by omega), if_pos (by omega), if_neg (by omega), if_neg (by omega)]
    rfl
  · subst h; rfl

set_option maxRecDepth 100000 in
set_option maxHeartbeats 8000000 in
theorem r18Evaluate_c (ins : List Int) (G : Nat → Prop) (AI : Option Addr) (ci : Nat) (hn : ins.length ≤ 1000000) (p : Pt) : ∀ (w : World) (F : Nat → Prop) (KA : Option Addr) (kc : Nat), PtK w F p KA kc → Ints w G AI ins → WfP ins.length p → p.size ≤ 1000000000000 →
    Calls Try.prog 15 #[pv p KA kc, .slice AI ins.length ci] w fun e w' => e = evR (evF ins p) ∧ Upd Non w w' := by
  induction p using Pt.ind with
  | h p ih =>
    intro w F KA kc hp hin hwf hs
    have hse := Pt.size_eq p
    have hle := Pt.len_le p.kids
    rw [WfP.iff] at hwf
    obtain ⟨hv0, hvn, har, hkw⟩ := hwf
    have HI := Lib.hid ih
    have HKW := Lib.hid hkw
    have HT := Lib.hid (evF_eq ins p)
    have HPS := Lib.hid hs
    obtain ⟨W, HW⟩ := nm (w.alloc (.cells #[.int .i64 p.v, .int .i64 p.op, .int .i64 p.imm, .int .i64 p.iv, .slice KA p.kids.length kc] 24))
    have hU : Upd Non w W := by rw [← HW.out]; exact Upd.refl.alloc _
    have hb : Blk W w.heap.size 24 #[.int .i64 p.v, .int .i64 p.op, .int .i64 p.imm, .int .i64 p.iv, .slice KA p.kids.length kc] := by rw [← HW.out]; exact Blk.new _ _ _
    have hsz : W.heap.size = w.heap.size + 1 := by rw [← HW.out]; simp
    have e0 := HW.out
    have c0 := hb.cell 0
    have c1 := hb.cell 1
    have c2 := hb.cell 2
    have c3 := hb.cell 3
    have c4 := hb.cell 4
    have hpW := PtK.upd hU (fun _ _ _ f => f) p KA kc hp
    have hinW := hin.upd hU (fun _ _ _ f => f)
    unfold pv
    obtain ⟨R, HR⟩ := nm (evF ins p)
    rw [HR.out] at HT
    rw [HR.out]
    obtain ⟨v, Hv⟩ := nm p.v
    obtain ⟨op, Hop⟩ := nm p.op
    obtain ⟨imm, Him⟩ := nm p.imm
    obtain ⟨iv, Hiv⟩ := nm p.iv
    obtain ⟨m, Hm⟩ := nm p.kids.length
    obtain ⟨ni, Hni⟩ := nm ins.length
    rw [Hv.out] at c0 e0 hv0 hvn har HT hb
    rw [Hop.out] at c1 e0 har HT hb
    rw [Him.out] at c2 e0 HT hb
    rw [Hiv.out] at c3 e0 HT hb
    rw [Hm.out] at c4 e0 hle har hb
    rw [Hni.out] at hvn hn HKW
    rw [Hv.out, Hop.out, Him.out, Hiv.out, Hm.out, Hni.out]
    have hm12 : m ≤ 1000000000000 := by omega
    have CU := Lib.hid unary_c
    have CB := Lib.hid binary_c
    clear ih hse hp hs hkw hin
    by_cases hv : 0 < v
    · have hvi : (v - 1).toNat < ins.length := by rw [Hni.out]; omega
      obtain ⟨b, o, rfl, hG, hbw, hcell⟩ := hinW.at_ hvi
      have HR2 : Hid (R = some ins[(v - 1).toNat]) := by show _ = _; rw [HT.out, if_pos hv, getD_of hvi]
      generalize ins[(v - 1).toNat] = x at *
      obtain ⟨u, hu⟩ : ∃ u : Nat, v = u + 1 := ⟨(v - 1).toNat, by omega⟩
      have hun : ((v - 1).toNat) = u := by omega
      rw [hun] at hcell
      clear hun hvi
      subst hu
      have hw1 : wrap64 ((u : Int) + 1 - 1) = u := by unfold wrap64; omega
      have t0 : decide ((u : Int) + 1 > 0) = true := decide_eq_true (by omega)
      go_enter Try.func15, Try.ntmps15
      go_wp2_with fail
      go_ret2
      exact ⟨by rw [HR2.out]; rfl, hU⟩
    · obtain rfl : v = 0 := by omega
      have har2 := har rfl
      have hnp : p.kids.length = m := Hm.out
      have HT2 : Hid (R = match allS (p.kids.map (evF ins)) with | none => none | some k => evOp op imm iv k) := by have := HT.out; rw [if_neg (by omega)] at this; exact this
      have HAR := Lib.hid har2
      clear HT har har2 hnp
      go_enter Try.func15, Try.ntmps15
      go_wp2_with fail
      go_loopg [6, 7, 8, 9] m (fun g v i _ _ wr => ∃ (k : Nat) (A : Option Addr) (c : Nat) (xs : List Int), Hid (g = m - k) ∧ k ≤ m ∧ i = .int .i64 k ∧ v = .slice A k c ∧ Hid (xs.length = k) ∧ Own wr 2 1 A k c (icells xs) ∧ Hid (∀ j, At A j → w.heap.size < j) ∧ Hid (allS ((p.kids.take k).map (evF ins)) = some xs) ∧ Upd Non W wr)
      case atStart => exact ⟨0, none, 0, [], rfl, by omega, rfl, rfl, rfl, Own.none_, fun j hj => (At.none_ hj).elim, by show _ = _; simp [allS], Upd.refl⟩
      case round =>
        obtain ⟨k, A, c, xs, Hg, hk, rfl, rfl, HL, ho, HA, HS, hu⟩ := hrel
        have c4 := cell_upd c4 hu (fun f => f)
        by_cases hlt : k < m
        · have hkl : k < p.kids.length := by rw [Hm.out]; exact hlt
          obtain ⟨b, o, rfl, hF, hbw, KB, kd, h0, h1, h2, h3, h4, h5⟩ := (PtK.upd hu (fun _ _ _ f => f) p KA kc hpW).at_ hkl
          have HTK : Hid ((p.kids.take (k + 1)).map (evF ins) = (p.kids.take k).map (evF ins) ++ [evF ins p.kids[k]]) := by
            show _ = _
            rw [List.take_add_one, List.getElem?_eq_getElem hkl, List.map_append]; rfl
          have hmem := List.getElem_mem hkl
          generalize p.kids[k] = q at *
          have hqs : q.size ≤ 1000000000000 := by have := Pt.kids_lt hmem; have := HPS.out; omega
          have C1 := Lib.hid (HI.out q hmem wr F KB kd h5 (hinW.upd hu (fun _ _ _ f => f)) (by rw [Hni.out]; exact HKW.out q hmem) hqs)
          unfold pv at C1
          rw [Hni.out] at C1
          clear h5
          go_wp2_with fail
          refine C1.out.mono ?_
          rintro e w4 ⟨rfl, hu4⟩
          have HU4 : Upd Non W w4 := hu.then_non hu4
          unfold evR
          cases hq : evF ins q with
          | none =>
            have HR2 : Hid (R = none) := by
              have := HT2.out
              rw [allS_none (List.mem_map.2 ⟨q, hmem, hq⟩)] at this
              exact this
            clear hq
            go_wp2_with fail
            go_ret2
            exact ⟨by rw [HR2.out]; rfl, hU.then_non HU4⟩
          | some x =>
            have HS5 : Hid (allS ((p.kids.take (k + 1)).map (evF ins)) = some (xs ++ [x])) := by
              show _ = _
              rw [HTK.out, allS_snoc, HS.out, hq]
            clear hq
            have ho4 := ho.upd hu4 (fun _ _ f => f)
            have hsw := hu.size
            have hs4 := hu4.size
            go_wp2_with (at_builtin; refine wpList_app rfl rfl T_i64s rfl (ho4.alloc _) rfl (Sl.new _ _ _) rfl (by simp [Value.oneCell']) (by simp only [maxLen]; omega) (by omega) ?_; intro A5 c5 w5 ho5 hu5 hat5)
            have HU5 : Upd Non W w5 := (HU4.alloc (.cells #[.int .i64 x] 2)).trans hu5 (fun i hi h => by have := HA.out i h; omega)
            have HAt : Hid (∀ j, At A5 j → w.heap.size < j) := fun j hj => by
              rcases hat5 j hj with h | h
              · exact HA.out j h
              · rw [h]; simp; omega
            have ho6 : Own w5 2 1 A5 (k + 1) c5 (icells (xs ++ [x])) := by rw [icells_snoc]; exact ho5
            clear ho4 ho5 ho hu4 hu5 hat5
            go_wp2_with fail
            go_roundg (m - (k + 1))
            case measure => rw [Hg.out]; omega
            case rel => exact ⟨k + 1, A5, c5, xs ++ [x], rfl, by omega, by go_num, rfl, by show _ = _; simp [HL.out], ho6, HAt, HS5, HU5⟩
        · obtain rfl : m = k := by omega
          have HT4 : Hid (R = evOp op imm iv xs) := by
            have := HT2.out
            have h2 := HS.out
            rw [← Hm.out, List.take_length] at h2
            rw [h2] at this
            exact this
          have hHU := hU.then_non hu
          have c1 := cell_upd c1 hu (fun f => f)
          have c2 := cell_upd c2 hu (fun f => f)
          have c3 := cell_upd c3 hu (fun f => f)
          clear HT2 HS hpW HI HKW hinW hle
          by_cases hiv : 0 < iv
          · have HR2 : Hid (R = none) := by show _ = _; rw [HT4.out]; unfold evOp; rw [if_pos hiv]
            have t0 : decide (iv > 0) = true := decide_eq_true hiv
            go_wp2_with fail
            go_ret2
            exact ⟨by rw [HR2.out]; rfl, hHU⟩
          · have t0 : decide (iv > 0) = false := decide_eq_false hiv
            by_cases h1 : op = 1
            · subst h1
              have HR2 : Hid (R = some imm) := by show _ = _; rw [HT4.out]; unfold evOp; rw [if_neg hiv, if_pos rfl]
              go_wp2_with fail
              go_ret2
              exact ⟨by rw [HR2.out]; rfl, hHU⟩
            · have t1 : (op == 1) = false := by simpa using h1
              have HLN := Lib.hid (oSorts_len op)
              have HC : Hid (∀ i (h : i < xs.length), ∃ g, A = some ⟨g, 0, none⟩ ∧ wr.cell? ⟨g, i, none⟩ = some (.int .i64 xs[i]) ∧ ∀ w', Upd Non wr w' → w'.cell? ⟨g, i, none⟩ = some (.int .i64 xs[i]) ∧ w'.cell? ⟨w.heap.size, 1, none⟩ = some (.int .i64 op)) := by
                intro i h
                obtain ⟨g, rfl⟩ := ho.some_ (by have := HL.out; omega)
                have hcc := ho.cell_ (i := i) (by simpa [icells] using h)
                rw [show (icells xs)[i]'(by simpa [icells] using h) = .int .i64 xs[i] by simp [icells]] at hcc
                exact ⟨g, rfl, hcc, fun w' u => ⟨cell_upd hcc u (fun f => f), cell_upd c1 u (fun f => f)⟩⟩
              clear ho HA
              by_cases h20 : op = 20
              · subst h20
                have hm1 : m = 1 := HAR.out.trans (HLN.out.1 (.inl rfl))
                subst hm1
                have HR2 : Hid (R = some (unF 20 (xs.getD 0 0))) := by show _ = _; rw [HT4.out]; unfold evOp; rw [if_neg hiv, if_neg h1, if_pos (.inl rfl)]
                clear HLN
                obtain ⟨x, rfl⟩ : ∃ x, xs = [x] := by
                  have h := HL.out
                  match xs, h with
                  | [x], _ => exact ⟨x, rfl⟩
                obtain ⟨g, rfl, hg, hS⟩ := HC.out 0 (by simp)
                simp only [List.getElem_cons_zero] at hg hS
                have HSS := Lib.hid hS
                clear hS HC
                go_wp2_with fail
                obtain ⟨wD, HwD⟩ := nm wr.drew
                have uD : Upd Non wr wD := by rw [← HwD.out]; exact Upd.refl.drew
                refine wp_region_held_drew (S := fun w' => w'.cell? ⟨g, 0, none⟩ = some (.int .i64 x) ∧ w'.cell? ⟨w.heap.size, 1, none⟩ = some (.int .i64 20)) (by kernel_rfl) (by rw [HwD.out]; exact HSS.out _ uD) (fun hHeld => ?_)
                rw [HwD.out] at hHeld ⊢
                refine wpAnyH_take (i := 0) (v := ?_) rfl (by kernel_rfl) (by kernel_rfl) (by kernel_rfl) (fun _ _ _ h => h) (Or.inl ⟨by rfl, ?_⟩) (by assumption) ?_
                rotate_left
                · intro w hSw; (try dsimp only at hSw); go_simp; try with_reducible rfl
                try simp only [put_y]
                try simp only [Act.put]
                try simp only [put_z]
                refine wpAnyH_take (i := 1) (v := ?_) rfl (by kernel_rfl) (by kernel_rfl) (by kernel_rfl) (fun _ _ _ h => h) (Or.inl ⟨by rfl, ?_⟩) (by assumption) ?_
                rotate_left
                · intro w hSw; (try dsimp only at hSw); go_simp; try with_reducible rfl
                try simp only [put_y]
                try simp only [Act.put]
                try simp only [put_z]
                refine wpAnyH_take (i := 2) (v := ?_) rfl (by kernel_rfl) (by kernel_rfl) (by kernel_rfl) (fun _ _ _ h => h) (Or.inl ⟨by rfl, ?_⟩) (by assumption) ?_
                rotate_left
                · intro w hSw; (try dsimp only at hSw); go_simp; try with_reducible rfl
                try simp only [put_y]
                try simp only [Act.put]
                try simp only [put_z]
                refine wpAnyH_take (i := 3) (v := ?_) rfl (by kernel_rfl) (by kernel_rfl) (by kernel_rfl) (fun _ _ _ h => h) (Or.inl ⟨by rfl, ?_⟩) (by assumption) ?_
                rotate_left
                · intro w hSw; (try dsimp only at hSw); go_simp; try with_reducible rfl
                try simp only [put_y]
                try simp only [Act.put]
                try simp only [put_z]
                refine wpAnyH_take (i := 4) (v := ?_) rfl (by kernel_rfl) (by kernel_rfl) (by kernel_rfl) (fun _ _ _ h => h) (Or.inl ⟨by rfl, ?_⟩) (by assumption) ?_
                rotate_left
                · intro w hSw; (try dsimp only at hSw); go_simp; try with_reducible rfl
                try simp only [put_y]
                try simp only [Act.put]
                try simp only [put_z]
                refine wpAnyH_takeC (i := 5) (v := ?v1) rfl (by kernel_rfl) (by kernel_rfl) (by kernel_rfl) (fun _ _ _ h => h) ⟨by rfl, ?f1, ?a1, ?r1, ?c1⟩ (by assumption) ?m1
                case r1 => intro w; go_simp; constructor <;> with_reducible rfl
                case c1 => intro W hSw; refine (CU.out _ _ _).mono ?_; rintro e w' ⟨rfl, rfl⟩; constructor <;> with_reducible rfl
                try simp only [put_y]
                try simp only [Act.put]
                try simp only [put_z]
                refine wpAnyH_take (i := 6) (v := ?_) rfl (by kernel_rfl) (by kernel_rfl) (by kernel_rfl) (fun _ _ _ h => h) (Or.inl ⟨by rfl, ?_⟩) (by assumption) ?_
                rotate_left
                · intro w hSw; (try dsimp only at hSw); go_simp; try with_reducible rfl
                try simp only [put_y]
                try simp only [Act.put]
                try simp only [put_z]
                refine wpAnyH_take (i := 7) (v := ?_) rfl (by kernel_rfl) (by kernel_rfl) (by kernel_rfl) (fun _ _ _ h => h) (Or.inl ⟨by rfl, ?_⟩) (by assumption) ?_
                rotate_left
                · intro w hSw; (try dsimp only at hSw); go_simp; try with_reducible rfl
                try simp only [put_y]
                try simp only [Act.put]
                try simp only [put_z]
                refine wpAnyH_done (by kernel_rfl) ?_ _
                go_wp2_with fail
                go_ret2
                exact ⟨by rw [HR2.out]; rfl, hHU.then_non uD⟩
              · have t2 : (op == 20) = false := by simpa using h20
                by_cases h21 : op = 21
                · subst h21
                  have hm1 : m = 1 := HAR.out.trans (HLN.out.1 (.inr rfl))
                  subst hm1
                  have HR2 : Hid (R = some (unF 21 (xs.getD 0 0))) := by show _ = _; rw [HT4.out]; unfold evOp; rw [if_neg hiv, if_neg h1, if_pos (.inr rfl)]
                  clear HLN
                  obtain ⟨x, rfl⟩ : ∃ x, xs = [x] := by
                    have h := HL.out
                    match xs, h with
                    | [x], _ => exact ⟨x, rfl⟩
                  obtain ⟨g, rfl, hg, hS⟩ := HC.out 0 (by simp)
                  simp only [List.getElem_cons_zero] at hg hS
                  have HSS := Lib.hid hS
                  clear hS HC
                  go_wp2_with fail
                  obtain ⟨wD, HwD⟩ := nm wr.drew
                  have uD : Upd Non wr wD := by rw [← HwD.out]; exact Upd.refl.drew
                  refine wp_region_held_drew (S := fun w' => w'.cell? ⟨g, 0, none⟩ = some (.int .i64 x) ∧ w'.cell? ⟨w.heap.size, 1, none⟩ = some (.int .i64 21)) (by kernel_rfl) (by rw [HwD.out]; exact HSS.out _ uD) (fun hHeld => ?_)
                  rw [HwD.out] at hHeld ⊢
                  refine wpAnyH_take (i := 0) (v := ?_) rfl (by kernel_rfl) (by kernel_rfl) (by kernel_rfl) (fun _ _ _ h => h) (Or.inl ⟨by rfl, ?_⟩) (by assumption) ?_
                  rotate_left
                  · intro w hSw; (try dsimp only at hSw); go_simp; try with_reducible rfl
                  try simp only [put_y]
                  try simp only [Act.put]
                  try simp only [put_z]
                  refine wpAnyH_take (i := 1) (v := ?_) rfl (by kernel_rfl) (by kernel_rfl) (by kernel_rfl) (fun _ _ _ h => h) (Or.inl ⟨by rfl, ?_⟩) (by assumption) ?_
                  rotate_left
                  · intro w hSw; (try dsimp only at hSw); go_simp; try with_reducible rfl
                  try simp only [put_y]
                  try simp only [Act.put]
                  try simp only [put_z]
                  refine wpAnyH_take (i := 2) (v := ?_) rfl (by kernel_rfl) (by kernel_rfl) (by kernel_rfl) (fun _ _ _ h => h) (Or.inl ⟨by rfl, ?_⟩) (by assumption) ?_
                  rotate_left
                  · intro w hSw; (try dsimp only at hSw); go_simp; try with_reducible rfl
                  try simp only [put_y]
                  try simp only [Act.put]
                  try simp only [put_z]
                  refine wpAnyH_take (i := 3) (v := ?_) rfl (by kernel_rfl) (by kernel_rfl) (by kernel_rfl) (fun _ _ _ h => h) (Or.inl ⟨by rfl, ?_⟩) (by assumption) ?_
                  rotate_left
                  · intro w hSw; (try dsimp only at hSw); go_simp; try with_reducible rfl
                  try simp only [put_y]
                  try simp only [Act.put]
                  try simp only [put_z]
                  refine wpAnyH_take (i := 4) (v := ?_) rfl (by kernel_rfl) (by kernel_rfl) (by kernel_rfl) (fun _ _ _ h => h) (Or.inl ⟨by rfl, ?_⟩) (by assumption) ?_
                  rotate_left
                  · intro w hSw; (try dsimp only at hSw); go_simp; try with_reducible rfl
                  try simp only [put_y]
                  try simp only [Act.put]
                  try simp only [put_z]
                  refine wpAnyH_takeC (i := 5) (v := ?v2) rfl (by kernel_rfl) (by kernel_rfl) (by kernel_rfl) (fun _ _ _ h => h) ⟨by rfl, ?f2, ?a2, ?r2, ?c2⟩ (by assumption) ?m2
                  case r2 => intro w; go_simp; constructor <;> with_reducible rfl
                  case c2 => intro W hSw; refine (CU.out _ _ _).mono ?_; rintro e w' ⟨rfl, rfl⟩; constructor <;> with_reducible rfl
                  try simp only [put_y]
                  try simp only [Act.put]
                  try simp only [put_z]
                  refine wpAnyH_take (i := 6) (v := ?_) rfl (by kernel_rfl) (by kernel_rfl) (by kernel_rfl) (fun _ _ _ h => h) (Or.inl ⟨by rfl, ?_⟩) (by assumption) ?_
                  rotate_left
                  · intro w hSw; (try dsimp only at hSw); go_simp; try with_reducible rfl
                  try simp only [put_y]
                  try simp only [Act.put]
                  try simp only [put_z]
                  refine wpAnyH_take (i := 7) (v := ?_) rfl (by kernel_rfl) (by kernel_rfl) (by kernel_rfl) (fun _ _ _ h => h) (Or.inl ⟨by rfl, ?_⟩) (by assumption) ?_
                  rotate_left
                  · intro w hSw; (try dsimp only at hSw); go_simp; try with_reducible rfl
                  try simp only [put_y]
                  try simp only [Act.put]
                  try simp only [put_z]
                  refine wpAnyH_done (by kernel_rfl) ?_ _
                  go_wp2_with fail
                  go_ret2
                  exact ⟨by rw [HR2.out]; rfl, hHU.then_non uD⟩
                · have t3 : (op == 21) = false := by simpa using h21
                  by_cases hb2 : 4 ≤ op ∧ op ≤ 19
                  · have hm1 : m = 2 := HAR.out.trans (HLN.out.2.1 hb2)
                    subst hm1
                    obtain ⟨x, y, rfl⟩ : ∃ x y, xs = [x, y] := by
                      have h := HL.out
                      match xs, h with
                      | [x, y], _ => exact ⟨x, y, rfl⟩
                    obtain ⟨g, rfl, hg, hS⟩ := HC.out 0 (by simp)
                    obtain ⟨g', e', hg', hS'⟩ := HC.out 1 (by simp)
                    injection e' with e'
                    injection e' with e'
                    subst e'
                    simp only [List.getElem_cons_zero, List.getElem_cons_succ] at hg hS hg' hS'
                    have HSS : Hid (∀ w', Upd Non wr w' → w'.cell? ⟨g, 0, none⟩ = some (.int .i64 x) ∧ w'.cell? ⟨g, 1, none⟩ = some (.int .i64 y) ∧ w'.cell? ⟨w.heap.size, 1, none⟩ = some (.int .i64 op)) := fun w' u => ⟨(hS w' u).1, (hS' w' u).1, (hS w' u).2⟩
                    have HR2 : Hid (R = some (binF op x y)) := by show _ = _; rw [HT4.out]; unfold evOp; rw [if_neg hiv, if_neg h1, if_neg (by omega), if_pos hb2]; rfl
                    have t4 : decide (op ≥ 4) = true := decide_eq_true hb2.1
                    have t5 : decide (op ≤ 19) = true := decide_eq_true hb2.2
                    have CB2 := Lib.hid (fun w' => CB.out op x y w' hb2.1 hb2.2)
                    clear hS hS' HC HLN h20 h21 hb2 CB
                    go_wp2_with fail
                    obtain ⟨wD, HwD⟩ := nm wr.drew
                    have uD : Upd Non wr wD := by rw [← HwD.out]; exact Upd.refl.drew
                    refine wp_region_held_drew (S := fun w' => w'.cell? ⟨g, 0, none⟩ = some (.int .i64 x) ∧ w'.cell? ⟨g, 1, none⟩ = some (.int .i64 y) ∧ w'.cell? ⟨w.heap.size, 1, none⟩ = some (.int .i64 op)) (by kernel_rfl) (by rw [HwD.out]; exact HSS.out _ uD) (fun hHeld => ?_)
                    rw [HwD.out] at hHeld ⊢
                    refine wpAnyH_take (i := 0) (v := ?_) rfl (by kernel_rfl) (by kernel_rfl) (by kernel_rfl) (fun _ _ _ h => h) (Or.inl ⟨by rfl, ?_⟩) (by assumption) ?_
                    rotate_left
                    · intro w hSw; (try dsimp only at hSw); go_simp; try with_reducible rfl
                    try simp only [put_y]
                    try simp only [Act.put]
                    try simp only [put_z]
                    refine wpAnyH_take (i := 1) (v := ?_) rfl (by kernel_rfl) (by kernel_rfl) (by kernel_rfl) (fun _ _ _ h => h) (Or.inl ⟨by rfl, ?_⟩) (by assumption) ?_
                    rotate_left
                    · intro w hSw; (try dsimp only at hSw); go_simp; try with_reducible rfl
                    try simp only [put_y]
                    try simp only [Act.put]
                    try simp only [put_z]
                    refine wpAnyH_take (i := 2) (v := ?_) rfl (by kernel_rfl) (by kernel_rfl) (by kernel_rfl) (fun _ _ _ h => h) (Or.inl ⟨by rfl, ?_⟩) (by assumption) ?_
                    rotate_left
                    · intro w hSw; (try dsimp only at hSw); go_simp; try with_reducible rfl
                    try simp only [put_y]
                    try simp only [Act.put]
                    try simp only [put_z]
                    refine wpAnyH_take (i := 3) (v := ?_) rfl (by kernel_rfl) (by kernel_rfl) (by kernel_rfl) (fun _ _ _ h => h) (Or.inl ⟨by rfl, ?_⟩) (by assumption) ?_
                    rotate_left
                    · intro w hSw; (try dsimp only at hSw); go_simp; try with_reducible rfl
                    try simp only [put_y]
                    try simp only [Act.put]
                    try simp only [put_z]
                    refine wpAnyH_take (i := 4) (v := ?_) rfl (by kernel_rfl) (by kernel_rfl) (by kernel_rfl) (fun _ _ _ h => h) (Or.inl ⟨by rfl, ?_⟩) (by assumption) ?_
                    rotate_left
                    · intro w hSw; (try dsimp only at hSw); go_simp; try with_reducible rfl
                    try simp only [put_y]
                    try simp only [Act.put]
                    try simp only [put_z]
                    refine wpAnyH_take (i := 5) (v := ?_) rfl (by kernel_rfl) (by kernel_rfl) (by kernel_rfl) (fun _ _ _ h => h) (Or.inl ⟨by rfl, ?_⟩) (by assumption) ?_
                    rotate_left
                    · intro w hSw; (try dsimp only at hSw); go_simp; try with_reducible rfl
                    try simp only [put_y]
                    try simp only [Act.put]
                    try simp only [put_z]
                    refine wpAnyH_take (i := 6) (v := ?_) rfl (by kernel_rfl) (by kernel_rfl) (by kernel_rfl) (fun _ _ _ h => h) (Or.inl ⟨by rfl, ?_⟩) (by assumption) ?_
                    rotate_left
                    · intro w hSw; (try dsimp only at hSw); go_simp; try with_reducible rfl
                    try simp only [put_y]
                    try simp only [Act.put]
                    try simp only [put_z]
                    refine wpAnyH_take (i := 7) (v := ?_) rfl (by kernel_rfl) (by kernel_rfl) (by kernel_rfl) (fun _ _ _ h => h) (Or.inl ⟨by rfl, ?_⟩) (by assumption) ?_
                    rotate_left
                    · intro w hSw; (try dsimp only at hSw); go_simp; try with_reducible rfl
                    try simp only [put_y]
                    try simp only [Act.put]
                    try simp only [put_z]
                    refine wpAnyH_takeC (i := 8) (v := ?v3) rfl (by kernel_rfl) (by kernel_rfl) (by kernel_rfl) (fun _ _ _ h => h) ⟨by rfl, ?f3, ?a3, ?r3, ?c3⟩ (by assumption) ?m3
                    case r3 => intro w; go_simp; constructor <;> with_reducible rfl
                    case c3 => intro W hSw; refine (CB2.out _).mono ?_; rintro e w' ⟨rfl, rfl⟩; constructor <;> with_reducible rfl
                    try simp only [put_y]
                    try simp only [Act.put]
                    try simp only [put_z]
                    refine wpAnyH_take (i := 9) (v := ?_) rfl (by kernel_rfl) (by kernel_rfl) (by kernel_rfl) (fun _ _ _ h => h) (Or.inl ⟨by rfl, ?_⟩) (by assumption) ?_
                    rotate_left
                    · intro w hSw; (try dsimp only at hSw); go_simp; try with_reducible rfl
                    try simp only [put_y]
                    try simp only [Act.put]
                    try simp only [put_z]
                    refine wpAnyH_take (i := 10) (v := ?_) rfl (by kernel_rfl) (by kernel_rfl) (by kernel_rfl) (fun _ _ _ h => h) (Or.inl ⟨by rfl, ?_⟩) (by assumption) ?_
                    rotate_left
                    · intro w hSw; (try dsimp only at hSw); go_simp; try with_reducible rfl
                    try simp only [put_y]
                    try simp only [Act.put]
                    try simp only [put_z]
                    refine wpAnyH_done (by kernel_rfl) ?_ _
                    go_wp2_with fail
                    go_ret2
                    exact ⟨by rw [HR2.out]; rfl, hHU.then_non uD⟩
                  · have HT5 : Hid (R = if op = 22 then some (if xs.getD 0 0 ≠ 0 then xs.getD 1 0 else xs.getD 2 0) else none) := by show _ = _; rw [HT4.out]; unfold evOp; rw [if_neg hiv, if_neg h1, if_neg (by omega), if_neg hb2]
                    have t4 : (decide (op ≥ 4) && decide (op ≤ 19)) = false := by simp; omega
                    have t6 : op < 4 ∧ decide (op ≥ 4) = false ∨ decide (op ≥ 4) = true ∧ decide (op ≤ 19) = false := by
                      rcases (show op < 4 ∨ 4 ≤ op by omega) with h | h
                      · exact .inl ⟨h, decide_eq_false (by omega)⟩
                      · exact .inr ⟨decide_eq_true h, decide_eq_false (by omega)⟩
                    by_cases h22 : op = 22
                    · subst h22
                      have hm1 : m = 3 := HAR.out.trans (HLN.out.2.2 rfl)
                      subst hm1
                      obtain ⟨x, y, z, rfl⟩ : ∃ x y z, xs = [x, y, z] := by
                        have h := HL.out
                        match xs, h with
                        | [x, y, z], _ => exact ⟨x, y, z, rfl⟩
                      obtain ⟨g, rfl, hg, _⟩ := HC.out 0 (by simp)
                      obtain ⟨g', e', hg', _⟩ := HC.out 1 (by simp)
                      injection e' with e'
                      injection e' with e'
                      subst e'
                      obtain ⟨g', e', hg'', _⟩ := HC.out 2 (by simp)
                      injection e' with e'
                      injection e' with e'
                      subst e'
                      simp only [List.getElem_cons_zero, List.getElem_cons_succ] at hg hg' hg''
                      have HR2 : Hid (R = some (if x ≠ 0 then y else z)) := HT5.out
                      clear HC HLN h20 h21 hb2 HT5 HT4
                      by_cases hx : x = 0
                      · subst hx
                        have HR3 : Hid (R = some z) := HR2.out
                        go_wp2_with fail
                        go_ret2
                        exact ⟨by rw [HR3.out]; rfl, hHU⟩
                      · have HR3 : Hid (R = some y) := by show _ = _; rw [HR2.out, if_pos hx]
                        have t7 : (x != 0) = true := by simpa using hx
                        go_wp2_with fail
                        go_ret2
                        exact ⟨by rw [HR3.out]; rfl, hHU⟩
                    · have t5 : (op == 22) = false := by simpa using h22
                      have HR2 : Hid (R = none) := by show _ = _; rw [HT5.out, if_neg h22]
                      clear HC HLN h20 h21 hb2 HT5 HT4
                      rcases t6 with ⟨_, t6⟩ | ⟨t6, t7⟩
                      · go_wp2_with fail
                        go_ret2
                        exact ⟨by rw [HR2.out]; rfl, hHU⟩
                      · go_wp2_with fail
                        go_ret2
                        exact ⟨by rw [HR2.out]; rfl, hHU⟩
end Go.Proofs.Ytnefhokojbkppaa
