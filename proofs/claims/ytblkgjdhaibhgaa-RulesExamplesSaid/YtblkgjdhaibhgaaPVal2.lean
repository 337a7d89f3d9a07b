/-
  What pattern.valid and pattern.Valid do.
-/
import Derived.Test.YtblkgjdhaibhgaaPVal
namespace Go.Proofs.Ytblkgjdhaibhgaa
open Go.RowKit

mutual
/-- Is the pattern valid in a position of sort s, and the sorts of the variables behind it. -/
def vPt : Pt → Int → Int → List Int → Bool × List Int
  | .mk v op imm iv kids, s, m, vs =>
    if v ≠ 0 then
      if v < 1 ∨ v > vs.length ∨ op ≠ 0 ∨ imm ≠ 0 ∨ iv ≠ 0 ∨ 0 < kids.length then (false, vs)
      else if vs.getD (v - 1).toNat 0 = 0 then (true, vs.set (v - 1).toNat s) else (decide (s = 0 ∨ s = vs.getD (v - 1).toNat 0), vs)
    else if (oSortsF op).2.2 = true ∧ kids.length = (oSortsF op).1.length ∧ (s = 0 ∨ s = (oSortsF op).2.1) ∧ pImmF (.mk v op imm iv kids) m = true then vKids kids (oSortsF op).1 m vs
    else (false, vs)
def vKids : List Pt → List Int → Int → List Int → Bool × List Int
  | [], _, _, vs => (true, vs)
  | k :: ks, ss, m, vs => if (vPt k (ss.headD 0) m vs).1 then vKids ks ss.tail m (vPt k (ss.headD 0) m vs).2 else (false, (vPt k (ss.headD 0) m vs).2)
end
theorem vPt_var {p : Pt} (hv : p.v ≠ 0) (s m : Int) (vs : List Int) : vPt p s m vs =
    if p.v < 1 ∨ p.v > vs.length ∨ p.op ≠ 0 ∨ p.imm ≠ 0 ∨ p.iv ≠ 0 ∨ 0 < p.kids.length then (false, vs)
      else if vs.getD (p.v - 1).toNat 0 = 0 then (true, vs.set (p.v - 1).toNat s) else (decide (s = 0 ∨ s = vs.getD (p.v - 1).toNat 0), vs) := by
  obtain ⟨v, op, imm, iv, kids⟩ := p
  simp only [vPt, Pt.v, Pt.op, Pt.imm, Pt.iv, Pt.kids] at hv ⊢
  rw [if_pos hv]
  rfl
theorem vPt_op {p : Pt} (hv : p.v = 0) (s m : Int) (vs : List Int) : vPt p s m vs =
    if (oSortsF p.op).2.2 = true ∧ p.kids.length = (oSortsF p.op).1.length ∧ (s = 0 ∨ s = (oSortsF p.op).2.1) ∧ pImmF p m = true then vKids p.kids (oSortsF p.op).1 m vs else (false, vs) := by
  obtain ⟨v, op, imm, iv, kids⟩ := p
  simp only [vPt, Pt.v, Pt.op, Pt.kids] at hv ⊢
  rw [if_neg (by omega)]
  rfl
theorem vKids_step {ks : List Pt} {ss : List Int} {m : Int} {vs : List Int} {k : Nat} (hk : k < ks.length) (hs : ks.length = ss.length) :
    vKids (ks.drop k) (ss.drop k) m vs = if (vPt ks[k] (ss[k]'(by omega)) m vs).1 then vKids (ks.drop (k + 1)) (ss.drop (k + 1)) m (vPt ks[k] (ss[k]'(by omega)) m vs).2 else (false, (vPt ks[k] (ss[k]'(by omega)) m vs).2) := by
  rw [List.drop_eq_getElem_cons hk, List.drop_eq_getElem_cons (show k < ss.length by omega)]
  simp only [vKids, List.headD_cons, List.tail_cons]
  rfl
theorem vPt_len (p : Pt) : ∀ (s m : Int) (vs : List Int), (vPt p s m vs).2.length = vs.length := by
  induction p using Pt.ind with
  | h p ih =>
    intro s m vs
    by_cases hv : p.v = 0
    · rw [vPt_op hv]
      split
      · suffices ∀ (ks : List Pt) (ss : List Int) (vs : List Int), (∀ k ∈ ks, ∀ (s m : Int) (vs : List Int), (vPt k s m vs).2.length = vs.length) → (vKids ks ss m vs).2.length = vs.length from this _ _ _ ih
        intro ks
        induction ks with
        | nil => intro ss vs _; simp only [vKids]
        | cons k ks ihk =>
          intro ss vs hk
          simp only [vKids]
          split
          · rw [ihk _ _ (fun x hx => hk x (List.mem_cons_of_mem _ hx))]; exact hk k (by simp) _ _ _
          · exact hk k (by simp) _ _ _
      · rfl
    · rw [vPt_var hv]
      split
      · rfl
      · split
        · simp
        · rfl

def VBlk (w : World) (g : Nat) (vs : List Int) : Prop := Blk w g 3 (icells vs).toArray
theorem VBlk.cell {w : World} {g : Nat} {vs : List Int} (h : VBlk w g vs) {i : Nat} (hi : i < vs.length) : w.cell? ⟨g, i, none⟩ = some (.int .i64 (vs.getD i 0)) := by
  rw [Blk.cell h]; simp [icells, List.getD, hi]
theorem VBlk.set_ {w : World} {g : Nat} {vs : List Int} (h : VBlk w g vs) (i : Nat) (x : Int) : VBlk (w.setCell ⟨g, i, none⟩ (.int .i64 x)) g (vs.set i x) := by
  have := Blk.set_ h i (.int .i64 x)
  unfold VBlk
  rw [show (icells (vs.set i x)).toArray = (icells vs).toArray.setIfInBounds i (.int .i64 x) by simp [icells, List.map_set]]
  exact this

set_option maxRecDepth 100000 in
set_option maxHeartbeats 4000000 in
theorem ptvalid_c (p : Pt) : ∀ (w : World) (F : Nat → Prop) (KA : Option Addr) (kc g c : Nat) (s m : Int) (vs : List Int), PtK w F p KA kc → ¬ F g → VBlk w g vs → p.size ≤ 1000000000000 → vs.length ≤ 1000000 →
    Calls Try.prog 72 #[pv p KA kc, .int .i64 s, .int .i64 m, .slice (some ⟨g, 0, none⟩) vs.length c] w fun e w' => e = .returned (.bool (vPt p s m vs).1) ∧ VBlk w' g (vPt p s m vs).2 ∧ Upd (· = g) w w' := by
  induction p using Pt.ind with
  | h p ih =>
    intro w F KA kc g c s m vs hp hFg hg hs hvs
    have hle := Pt.len_le p.kids
    have hse := Pt.size_eq p
    have HI := Lib.hid ih
    have HPS := Lib.hid hs
    have HV := Lib.hid (@vPt_var p)
    have HO := Lib.hid (@vPt_op p)
    obtain ⟨W, HW⟩ := nm (w.alloc (.cells #[.int .i64 p.v, .int .i64 p.op, .int .i64 p.imm, .int .i64 p.iv, .slice KA p.kids.length kc] 30))
    have hU : Upd Non w W := by rw [← HW.out]; exact Upd.refl.alloc _
    have hb : Blk W w.heap.size 30 #[.int .i64 p.v, .int .i64 p.op, .int .i64 p.imm, .int .i64 p.iv, .slice KA p.kids.length kc] := by rw [← HW.out]; exact Blk.new _ _ _
    have e0 := HW.out
    have hgW : VBlk W g vs := Blk.upd hg hU (fun f => f)
    have hpW := PtK.upd hU (fun _ _ _ f => f) p KA kc hp
    have hUg : Upd (· = g) w W := hU.mono (fun _ _ f => f.elim)
    have hglt : g < w.heap.size := Blk.lt hg
    have hsz := hU.size
    have c0 := hb.cell 0
    have c1 := hb.cell 1
    have c2 := hb.cell 2
    have c3 := hb.cell 3
    have c4 := hb.cell 4
    have hn12 : p.kids.length ≤ 1000000000000 := by omega
    have CO := Lib.hid (fun w => ptOpSorts_c p.op w)
    have CI := Lib.hid (fun w => ptValidImm_c p KA kc m w)
    unfold pv at CI ⊢
    obtain ⟨R, HR⟩ := nm (vPt p s m vs)
    rw [HR.out]
    obtain ⟨v, Hv⟩ := nm p.v
    obtain ⟨op, Hop⟩ := nm p.op
    obtain ⟨imm, Him⟩ := nm p.imm
    obtain ⟨iv, Hiv⟩ := nm p.iv
    obtain ⟨n, Hn⟩ := nm p.kids.length
    rw [Hv.out] at c0 e0 CI
    rw [Hop.out] at c1 e0 CI CO
    rw [Him.out] at c2 e0 CI
    rw [Hiv.out] at c3 e0 CI
    rw [Hn.out] at c4 e0 CI hn12
    rw [Hv.out, Hop.out, Him.out, Hiv.out, Hn.out] at hb
    rw [Hv.out, Hop.out, Him.out, Hiv.out, Hn.out]
    clear ih hp hse hle hg hs
    by_cases hv : v = 0
    · subst hv
      obtain ⟨z, Hz⟩ : ∃ z, oSortsF op = z := ⟨_, rfl⟩
      obtain ⟨ss, own, ok⟩ := z
      have HO2 : Hid (R = if ok = true ∧ n = ss.length ∧ (s = 0 ∨ s = own) ∧ pImmF p m = true then vKids p.kids ss m vs else (false, vs)) := by
        show _ = _
        rw [← HR.out, HO.out Hv.out, Hop.out, Hz, Hn.out]
      rw [Hz] at CO
      dsimp only at CO
      clear HV HO HR Hz
      obtain ⟨bi, Hbi⟩ := nm (pImmF p m)
      rw [Hbi.out] at CI HO2
      go_enter Try.func72, Try.ntmps72
      go_wp2_with fail
      refine (CO.out W).mono ?_
      rintro e w2 ⟨SA, sc, rfl, hiS, hu2⟩
      have hU2 := hU.then_non hu2
      have hUg2 : Upd (· = g) w w2 := hUg.then_non hu2
      have hg2 := Blk.upd hgW hu2 (fun f => f)
      have hp2 := PtK.upd hu2 (fun _ _ _ f => f) p KA kc hpW
      have hb2 := hb.upd hu2 (fun f => f)
      have c0 := hb2.cell 0
      have c1 := hb2.cell 1
      have c2 := hb2.cell 2
      have c3 := hb2.cell 3
      have c4 := hb2.cell 4
      have hl2 := hb2.lt
      clear CO hpW hgW e0
      cases ok with
      | false =>
        have HR2 : Hid (R = (false, vs)) := by show _ = _; rw [HO2.out]; simp
        go_wp2_with fail
        go_ret
        exact ⟨by rw [HR2.out]; rfl, by rw [HR2.out]; exact hg2, hUg2⟩
      | true =>
        by_cases hns : n = ss.length
        · have t1 : ((n : Int) != (ss.length : Int)) = false := by rw [hns]; simp
          by_cases hso : s = 0 ∨ s = own
          · obtain ⟨b3, f3⟩ : ∃ b, (s != 0) = b := ⟨_, rfl⟩
            obtain ⟨b4, f4⟩ : ∃ b, (s != own) = b := ⟨_, rfl⟩
            have HB : Hid ((b3 && b4) = false) := by
              show _ = _
              rw [← f3, ← f4]
              rcases hso with q | q <;> simp [q]
            have HNS := Lib.hid hns
            have HSO := Lib.hid hso
            clear hns hso
            go_upto_region 11 with fail
            go_cut [101] (fun t wx => t = .bool (!bi) ∧ Upd Non w2 wx)
            case first =>
              cases b3 <;> cases b4
              case true.true => exact absurd HB.out (by simp)
              all_goals
                go_wp2_with fail
                refine (CI.out _).mono ?_
                rintro e w3 ⟨rfl, hu3⟩
                go_wp2_with fail
                go_meet
                exact ⟨rfl, hu3⟩
            case rest =>
            obtain ⟨rfl, hu3⟩ := hcut
            have hU3 := hUg2.then_non hu3
            have hg3 := Blk.upd hg2 hu3 (fun f => f)
            have hb3 := hb2.upd hu3 (fun f => f)
            have c4 := hb3.cell 4
            have hp3 := PtK.upd hu3 (fun _ _ _ f => f) p KA kc hp2
            have hiS3 := hiS.upd hu3 (fun _ _ _ f => f)
            have hsz2 := hu2.size
            cases bi with
            | false =>
              have HR2 : Hid (R = (false, vs)) := by show _ = _; rw [HO2.out, if_neg (fun q => by simpa using q.2.2.2)]
              clear HO2
              go_wp2_with fail
              go_ret
              exact ⟨by rw [HR2.out]; rfl, by rw [HR2.out]; exact hg3, hU3⟩
            | true =>
              have HR2 : Hid (R = vKids (p.kids.drop 0) (ss.drop 0) m vs) := by show _ = _; rw [HO2.out, if_pos (by refine ⟨?_, HNS.out, HSO.out, ?_⟩ <;> simp)]; simp
              have HST := Lib.hid (fun k (hk : k < p.kids.length) vk => @vKids_step p.kids ss m vk k hk (by rw [Hn.out]; exact HNS.out))
              have HVL := Lib.hid (fun (q : Pt) (s m : Int) vs => vPt_len q s m vs)
              clear HO2 hp2 hg2 hb2 hiS CI c0 c1 c2 c3
              go_wp2_with fail
              go_loopg [13, 14, 105] n (fun gg _ _ i wr => ∃ (k : Nat) (vk : List Int), Hid (gg = n - k) ∧ k ≤ n ∧ i = .int .i64 k ∧ VBlk wr g vk ∧ vk.length = vs.length ∧ Hid (R = vKids (p.kids.drop k) (ss.drop k) m vk) ∧ Upd (· = g) wc wr)
              case atStart => exact ⟨0, vs, rfl, by omega, rfl, hg3, rfl, HR2, Upd.refl⟩
              case round =>
                obtain ⟨k, vk, Hg, hk, rfl, hgk, hvk, HRk, hu⟩ := hrel
                by_cases hlt : k < n
                · have hkl : k < p.kids.length := by rw [Hn.out]; exact hlt
                  have hks : k < ss.length := by have := HNS.out; omega
                  obtain ⟨b, o, rfl, hF, hbw, KB, kd, h0, h1, h2, h3, h4, h5⟩ := (PtK.upd hu (fun k _ hF e => hFg (by rw [← e]; exact hF)) p KA kc hp3).at_ hkl
                  obtain ⟨sb, so, rfl, hsb, hsbw, hsc⟩ := (hiS3.upd hu (fun k _ q e => by omega)).at_ hks
                  have hmem0 := List.getElem_mem hkl
                  have hqs := Pt.kids_lt hmem0
                  have HRs := HST.out k hkl vk
                  have hps : p.size ≤ 1000000000000 := HPS.out
                  rw [HRs] at HRk
                  clear HRs
                  generalize p.kids[k] = q at *
                  generalize ss[k] = x at *
                  have hge : wr.heap.size > g := Blk.lt hgk
                  have i0 : (0 : Int) ≤ (k : Int) := by omega
                  have i1 : (k : Int) < (ss.length : Int) := by omega
                  obtain ⟨W3, HW3⟩ := nm (wr.alloc (.cells #[.int .i64 q.v, .int .i64 q.op, .int .i64 q.imm, .int .i64 q.iv, .slice KB q.kids.length kd] 30))
                  have u3 : Upd Non wr W3 := by rw [← HW3.out]; exact Upd.refl.alloc _
                  have bq : Blk W3 wr.heap.size 30 #[.int .i64 q.v, .int .i64 q.op, .int .i64 q.imm, .int .i64 q.iv, .slice KB q.kids.length kd] := by rw [← HW3.out]; exact Blk.new _ _ _
                  have eW3 := HW3.out
                  have hq3 := PtK.upd u3 (fun _ _ _ f => f) q KB kd h5
                  have hs3 := cell_upd hsc u3 (fun f => f)
                  have hg4 : VBlk W3 g vk := Blk.upd hgk u3 (fun f => f)
                  have C1 := Lib.hid (HI.out q hmem0 W3.drew F KB kd g c x m vk (PtK.upd (Upd.refl.drew (S := Non)) (fun _ _ _ f => f) q KB kd hq3) hFg hg4 (by omega) (by omega))
                  unfold pv at C1
                  rw [hvk] at C1
                  have q0 : W3.cell? ⟨wr.heap.size, 0, none⟩ = some (.int .i64 q.v) := bq.cell 0
                  have q1 : W3.cell? ⟨wr.heap.size, 1, none⟩ = some (.int .i64 q.op) := bq.cell 1
                  have q2 : W3.cell? ⟨wr.heap.size, 2, none⟩ = some (.int .i64 q.imm) := bq.cell 2
                  have q3 : W3.cell? ⟨wr.heap.size, 3, none⟩ = some (.int .i64 q.iv) := bq.cell 3
                  have q4 : W3.cell? ⟨wr.heap.size, 4, none⟩ = some (.slice KB q.kids.length kd) := bq.cell 4
                  have HV1 := Lib.hid (HVL.out q x m vk)
                  obtain ⟨r, Hr⟩ := nm (vPt q x m vk)
                  obtain ⟨rb, rv⟩ := r
                  rw [Hr.out] at C1 HRk HV1
                  have hrv : rv.length = vs.length := by rw [← hvk]; exact HV1.out
                  clear h5 hq3 hps hqs bq
                  have hS : ∀ w', Upd (· = g) W3 w' → w'.cell? ⟨wr.heap.size, 0, none⟩ = some (.int .i64 q.v) ∧ w'.cell? ⟨wr.heap.size, 1, none⟩ = some (.int .i64 q.op) ∧ w'.cell? ⟨wr.heap.size, 2, none⟩ = some (.int .i64 q.imm) ∧ w'.cell? ⟨wr.heap.size, 3, none⟩ = some (.int .i64 q.iv) ∧ w'.cell? ⟨wr.heap.size, 4, none⟩ = some (.slice KB q.kids.length kd) ∧ w'.cell? ⟨sb, so + k, none⟩ = some (.int .i64 x) := fun w' u => ⟨cell_upd q0 u (by omega), cell_upd q1 u (by omega), cell_upd q2 u (by omega), cell_upd q3 u (by omega), cell_upd q4 u (by omega), cell_upd hs3 u (by omega)⟩
                  go_wp2_with fail
                  refine wp_region_held_drew (S := fun w' => w'.cell? ⟨wr.heap.size, 0, none⟩ = some (.int .i64 q.v) ∧ w'.cell? ⟨wr.heap.size, 1, none⟩ = some (.int .i64 q.op) ∧ w'.cell? ⟨wr.heap.size, 2, none⟩ = some (.int .i64 q.imm) ∧ w'.cell? ⟨wr.heap.size, 3, none⟩ = some (.int .i64 q.iv) ∧ w'.cell? ⟨wr.heap.size, 4, none⟩ = some (.slice KB q.kids.length kd) ∧ w'.cell? ⟨sb, so + k, none⟩ = some (.int .i64 x)) (by kernel_rfl) (by first | exact hS _ (Upd.refl (S := (· = g))).drew | (rw [eW3]; exact hS _ (Upd.refl (S := (· = g))).drew)) (fun hHeld => ?_)
                  try rw [eW3] at hHeld ⊢
                  refine wpAnyH_take (i := 0) (v := ?_) rfl (by kernel_rfl) (by kernel_rfl) (by kernel_rfl) (fun _ _ _ h => h) (Or.inl ⟨by rfl, ?_⟩) (by assumption) ?_
                  rotate_left
                  · intro w hSw; (try dsimp only at hSw); go_simp; try with_reducible rfl
                  try simp only [put_y]
                  try simp only [Act.put]
                  try simp only [put_z]
                  refine wpAnyH_take (i := 1) (v := ?_) rfl (by kernel_rfl) (by kernel_rfl) (by kernel_rfl) (fun _ _ _ h => h) (Or.inl ⟨by rfl, ?_⟩) (by assumption) ?_
                  rotate_left
                  · intro w hSw; (try dsimp only at hSw); go_simp; try with_reducible rfl
                  try simp only [put_y]
                  try simp only [Act.put]
                  try simp only [put_z]
                  refine wpAnyH_take (i := 2) (v := ?_) rfl (by kernel_rfl) (by kernel_rfl) (by kernel_rfl) (fun _ _ _ h => h) (Or.inl ⟨by rfl, ?_⟩) (by assumption) ?_
                  rotate_left
                  · intro w hSw; (try dsimp only at hSw); go_simp; try with_reducible rfl
                  try simp only [put_y]
                  try simp only [Act.put]
                  try simp only [put_z]
                  refine wpAnyH_take (i := 3) (v := ?_) rfl (by kernel_rfl) (by kernel_rfl) (by kernel_rfl) (fun _ _ _ h => h) (Or.inl ⟨by rfl, ?_⟩) (by assumption) ?_
                  rotate_left
                  · intro w hSw; (try dsimp only at hSw); go_simp; try with_reducible rfl
                  try simp only [put_y]
                  try simp only [Act.put]
                  try simp only [put_z]
                  refine wpAnyH_take (i := 4) (v := ?_) rfl (by kernel_rfl) (by kernel_rfl) (by kernel_rfl) (fun _ _ _ h => h) (Or.inl ⟨by rfl, ?_⟩) (by assumption) ?_
                  rotate_left
                  · intro w hSw; (try dsimp only at hSw); go_simp; try with_reducible rfl
                  try simp only [put_y]
                  try simp only [Act.put]
                  try simp only [put_z]
                  refine wpAnyH_take (i := 5) (v := ?_) rfl (by kernel_rfl) (by kernel_rfl) (by kernel_rfl) (fun _ _ _ h => h) (Or.inl ⟨by rfl, ?_⟩) (by assumption) ?_
                  rotate_left
                  · intro w hSw; (try dsimp only at hSw); go_simp; try with_reducible rfl
                  try simp only [put_y]
                  try simp only [Act.put]
                  try simp only [put_z]
                  refine wpAnyH_take (i := 6) (v := ?_) rfl (by kernel_rfl) (by kernel_rfl) (by kernel_rfl) (fun _ _ _ h => h) (Or.inl ⟨by rfl, ?_⟩) (by assumption) ?_
                  rotate_left
                  · intro w hSw; (try dsimp only at hSw); go_simp; try with_reducible rfl
                  try simp only [put_y]
                  try simp only [Act.put]
                  try simp only [put_z]
                  refine wpAnyH_ready (rs := [7]) (by kernel_rfl) (by simp) ?_
                  refine AllReadyH.cons rfl (fun K hK => ?_) AllReadyH.nil
                  go_simp
                  refine C1.out.mono ?_
                  rintro e w5 ⟨rfl, hg5, hu5'⟩
                  have hu5 : Upd (· = g) W3 w5 := (Upd.refl.drew (S := (· = g))).trans hu5' (fun _ _ q => q)
                  have hu6 : Upd (· = g) wr w5 := (u3.mono (T := (· = g)) (fun _ _ f => f.elim)).trans hu5 (fun _ _ q => q)
                  go_wp2_with fail
                  refine hK.out _ _ ?_ (fun hHeld => ?_)
                  · exact hS _ hu5
                  clear hK K
                  try simp only [put_y]
                  try simp only [Act.put]
                  try simp only [put_z]
                  refine wpAnyH_take (i := 8) (v := ?_) rfl (by kernel_rfl) (by kernel_rfl) (by kernel_rfl) (fun _ _ _ h => h) (Or.inl ⟨by rfl, ?_⟩) (by assumption) ?_
                  rotate_left
                  · intro w hSw; (try dsimp only at hSw); go_simp; try with_reducible rfl
                  try simp only [put_y]
                  try simp only [Act.put]
                  try simp only [put_z]
                  refine wpAnyH_done (by kernel_rfl) ?_ _
                  cases rb with
                  | true =>
                    have HRn : Hid (R = vKids (p.kids.drop (k + 1)) (ss.drop (k + 1)) m rv) := by show _ = _; rw [HRk.out]; rfl
                    clear C1 hS q0 q1 q2 q3 q4
                    go_wp2_with fail
                    go_roundg (n - (k + 1))
                    case measure => rw [Hg.out]; omega
                    case rel => exact ⟨k + 1, rv, rfl, by omega, by go_num, hg5, hrv, HRn, hu.trans hu6 (fun _ _ q => q)⟩
                  | false =>
                    have HRn : Hid (R = (false, rv)) := by show _ = _; rw [HRk.out]; rfl
                    clear C1 hS q0 q1 q2 q3 q4
                    go_wp2_with fail
                    go_ret
                    exact ⟨by rw [HRn.out]; rfl, by rw [HRn.out]; exact hg5, (hU3.trans hu (fun _ _ q => q)).trans hu6 (fun _ _ q => q)⟩
                · obtain rfl : n = k := by omega
                  have HRz : Hid (R = (true, vk)) := by
                    show _ = _
                    rw [HRk.out, List.drop_eq_nil_of_le (by rw [Hn.out]; exact Nat.le_refl _)]
                    rfl
                  go_wp2_with fail
                  go_ret
                  exact ⟨by rw [HRz.out]; rfl, by rw [HRz.out]; exact hgk, hU3.trans hu (fun _ _ q => q)⟩
          · have t2 : (s != 0) = true := by simp; omega
            have t3 : (s != own) = true := by simp; omega
            have HR2 : Hid (R = (false, vs)) := by show _ = _; rw [HO2.out, if_neg (fun q => hso q.2.2.1)]
            clear HO2 hso
            have hns := Lib.hid hns
            go_wp2_with fail
            go_ret
            exact ⟨by rw [HR2.out]; rfl, by rw [HR2.out]; exact hg2, hUg2⟩
        · have t1 : ((n : Int) != (ss.length : Int)) = true := by simp; omega
          have HR2 : Hid (R = (false, vs)) := by show _ = _; rw [HO2.out, if_neg (fun q => hns q.2.1)]
          clear HO2
          go_wp2_with fail
          go_ret
          exact ⟨by rw [HR2.out]; rfl, by rw [HR2.out]; exact hg2, hUg2⟩
    · have t0 : (v != 0) = true := by simpa using hv
      clear CO CI
      have HV2 : Hid (R = if v < 1 ∨ v > vs.length ∨ op ≠ 0 ∨ imm ≠ 0 ∨ iv ≠ 0 ∨ 0 < n then (false, vs) else if vs.getD (v - 1).toNat 0 = 0 then (true, vs.set (v - 1).toNat s) else (decide (s = 0 ∨ s = vs.getD (v - 1).toNat 0), vs)) := by
        show _ = _
        rw [← HR.out, HV.out (by rw [Hv.out]; exact hv), Hv.out, Hop.out, Him.out, Hiv.out, Hn.out]
      clear HV HO HI
      by_cases hbad : v < 1 ∨ v > vs.length ∨ op ≠ 0 ∨ imm ≠ 0 ∨ iv ≠ 0 ∨ 0 < n
      · have HRv : Hid (R = (false, vs)) := by show _ = _; rw [HV2.out, if_pos hbad]
        rw [HRv.out]
        have Hbad := Lib.hid hbad
        obtain ⟨b1, f1⟩ : ∃ b, decide (v < 1) = b := ⟨_, rfl⟩
        obtain ⟨b2, f2⟩ : ∃ b, decide (v > (vs.length : Int)) = b := ⟨_, rfl⟩
        obtain ⟨b3, f3⟩ : ∃ b, (op != 0) = b := ⟨_, rfl⟩
        obtain ⟨b4, f4⟩ : ∃ b, (imm != 0) = b := ⟨_, rfl⟩
        obtain ⟨b5, f5⟩ : ∃ b, (iv != 0) = b := ⟨_, rfl⟩
        obtain ⟨b6, f6⟩ : ∃ b, decide ((n : Int) > 0) = b := ⟨_, rfl⟩
        have HB : Hid ((b1 || b2 || b3 || b4 || b5 || b6) = true) := by
          show _ = _
          rw [← f1, ← f2, ← f3, ← f4, ← f5, ← f6]
          simp
          omega
        clear hbad
        cases b1 with
        | true =>
          go_enter Try.func72, Try.ntmps72
          go_wp2_with fail
          go_ret
          exact ⟨rfl, hgW, hUg⟩
        | false => cases b2 with
          | true =>
            go_enter Try.func72, Try.ntmps72
            go_wp2_with fail
            go_ret
            exact ⟨rfl, hgW, hUg⟩
          | false => cases b3 with
            | true =>
              go_enter Try.func72, Try.ntmps72
              go_wp2_with fail
              go_ret
              exact ⟨rfl, hgW, hUg⟩
            | false => cases b4 with
              | true =>
                go_enter Try.func72, Try.ntmps72
                go_wp2_with fail
                go_ret
                exact ⟨rfl, hgW, hUg⟩
              | false => cases b5 with
                | true =>
                  go_enter Try.func72, Try.ntmps72
                  go_wp2_with fail
                  go_ret
                  exact ⟨rfl, hgW, hUg⟩
                | false => cases b6 with
                  | true =>
                    have hn0 : 0 < n := by simpa using f6
                    have hn1 : decide (0 < n) = true := decide_eq_true hn0
                    go_enter Try.func72, Try.ntmps72
                    go_wp2_with fail
                    go_ret
                    exact ⟨rfl, hgW, hUg⟩
                  | false => exact absurd HB.out (by simp)
      · rw [if_neg hbad] at HV2
        obtain ⟨i, hi⟩ := Int.eq_ofNat_of_zero_le (show 0 ≤ v - 1 by omega)
        have hil : i < vs.length := by omega
        obtain rfl : op = 0 := by omega
        obtain rfl : imm = 0 := by omega
        obtain rfl : iv = 0 := by omega
        obtain rfl : n = 0 := by omega
        have t1 : decide (v < 1) = false := decide_eq_false (by omega)
        have t2 : decide (v > (vs.length : Int)) = false := decide_eq_false (by omega)
        have hw : wrap64 (v - 1) = (i : Int) := by unfold wrap64; omega
        have hw2 : IntKind.i64.wrap (v - 1) = (i : Int) := by rw [i64w_of (by unfold I64; omega)]; exact hi
        have cg := VBlk.cell hgW hil
        have fg := Blk.frozen hgW i
        have i0 : (0 : Int) ≤ (i : Int) := by omega
        have i1 : (i : Int) < (vs.length : Int) := by omega
        rw [hi, Int.toNat_natCast] at HV2
        have hset := VBlk.set_ hgW i s
        have uset := updCell W g i (.int .i64 s)
        clear hbad HR Hv Hop Him Hiv Hn hpW
        obtain ⟨y, Hy⟩ := nm (vs.getD i 0)
        rw [Hy.out] at HV2 cg
        by_cases hy : y = 0
        · rw [if_pos hy] at HV2
          subst hy
          rw [HV2.out]
          clear HV2
          go_enter Try.func72, Try.ntmps72
          go_wp2_with fail
          go_ret
          exact ⟨rfl, hset, hUg.trans uset (fun _ _ q => q)⟩
        · rw [if_neg hy] at HV2
          have ty : (y == 0) = false := by simpa using hy
          by_cases hs0 : s = 0
          · subst hs0
            have HV2 : Hid (R = (true, vs)) := by show _ = _; rw [HV2.out]; simp
            rw [HV2.out]
            clear HV2
            go_enter Try.func72, Try.ntmps72
            go_wp2_with fail
            go_ret
            exact ⟨rfl, hgW, hUg⟩
          · have ts : (s != 0) = true := by simpa using hs0
            by_cases hsy : s = y
            · subst hsy
              have tt : (s != s) = false := by simp
              have HV2 : Hid (R = (true, vs)) := by show _ = _; rw [HV2.out]; simp
              rw [HV2.out]
              clear HV2
              go_enter Try.func72, Try.ntmps72
              go_wp2_with fail
              go_ret
              exact ⟨rfl, hgW, hUg⟩
            · have tt : (s != y) = true := by simpa using hsy
              have HV2 : Hid (R = (false, vs)) := by show _ = _; rw [HV2.out]; simp [hs0, hsy]
              rw [HV2.out]
              clear HV2
              go_enter Try.func72, Try.ntmps72
              go_wp2_with fail
              go_ret
              exact ⟨rfl, hgW, hUg⟩
end Go.Proofs.Ytblkgjdhaibhgaa
