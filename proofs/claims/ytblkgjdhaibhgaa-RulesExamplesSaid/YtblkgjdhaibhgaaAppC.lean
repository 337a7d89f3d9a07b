/-
  What the reader's application does, given what its term does.
-/
import Derived.Test.YtblkgjdhaibhgaaAppP
namespace Go.Proofs.Ytblkgjdhaibhgaa
open Go.RowKit

theorem hcf78 : ∀ (args : Array Value) (w : World), (callFunc 78 args).run Try.prog w = .ok (.enter 78 args) w := fun args w => by
  simp [callFunc, Try.func78, Try.f78]
theorem oper_len {left : Bool} {s : Bs} {x ps : PS} {q : Pt} (h : operF left s x = some (q, ps)) : ps.vs.length ≤ x.vs.length + 1 ∧ ps.ms.length ≤ x.ms.length + 1 := by
  unfold operF at h
  dsimp only at h
  split at h
  · cases h
  · split at h
    · cases h
    · split at h
      · injection h with h; injection h with _ h; subst h; exact ⟨Nat.le_succ _, Nat.le_succ _⟩
      · split at h
        · injection h with h; injection h with _ h; subst h; exact ⟨Nat.le_succ _, Nat.le_succ _⟩
        · split at h
          · split at h
            · injection h with h; injection h with _ h; subst h; exact ⟨Nat.le_succ _, lookF_len _ _ _⟩
            · cases h
          · cases h
set_option maxRecDepth 100000 in
set_option maxHeartbeats 4000000 in
theorem rApplication_c {L : List Tok} {T : List (Bs × Nat)} {fin : Nat} (hL : LOk L T fin) (left : Bool) (f : Nat)
    (HT : Hid (∀ {w : World} {p : Nat} {A : Option Addr} {c : Nat} {x : St}, RdS w p A c L x → Good T x → x.left = left → x.why = 0 → T.length < x.i + f → Calls Try.prog 42 #[.pointer (some ⟨p, 0, none⟩)] w (TermP T w p A c L x (termF T fin left f (psOf x)))))
    {w : World} {p : Nat} {A : Option Addr} {c : Nat} {x : St} (h : RdS w p A c L x) (hx : Good T x) (hl : x.left = left) (h0 : x.why = 0) (hf : T.length < x.i + f) :
    Calls Try.prog 63 #[.pointer (some ⟨p, 0, none⟩)] w (TermP T w p A c L x (appF T fin left f (psOf x))) := by
  have hiL : x.i < L.length := by have := hL.lt; have := hx.1; omega
  have hLl := hL.len
  obtain ⟨W1, HW1⟩ := nm (w.alloc (.cells #[.pointer (some ⟨p, 0, none⟩)] 53))
  have u1 : Upd Non w W1 := by rw [← HW1.out]; exact Upd.refl.alloc _
  have b1 : Blk W1 w.heap.size 53 #[.pointer (some ⟨p, 0, none⟩)] := by rw [← HW1.out]; exact Blk.new _ _ _
  have s1 : W1.heap.size = w.heap.size + 1 := by rw [← HW1.out]; simp
  obtain ⟨W2, HW2⟩ := nm (W1.alloc (.cells #[.int .i64 0, .int .i64 0, .int .i64 0, .int .i64 0, .slice none 0 0] 30))
  have u2 : Upd Non W1 W2 := by rw [← HW2.out]; exact Upd.refl.alloc _
  have b2 : Blk W2 (w.heap.size + 1) 30 (p0 (.mk 0 0 0 0 [])) := by rw [← HW2.out, ← s1]; exact Blk.new _ _ _
  have s2 : W2.heap.size = w.heap.size + 2 := by rw [← HW2.out]; simp [s1]
  obtain ⟨W3, HW3⟩ := nm (W2.alloc (.cells #[.int .i64 0, .int .i64 0, .int .i64 0, .int .i64 0, .slice none 0 0] 30))
  have u3 : Upd Non W2 W3 := by rw [← HW3.out]; exact Upd.refl.alloc _
  have b3 : Blk W3 (w.heap.size + 2) 30 (p0 (.mk 0 0 0 0 [])) := by rw [← HW3.out, ← s2]; exact Blk.new _ _ _
  have s3 : W3.heap.size = w.heap.size + 3 := by rw [← HW3.out]; simp [s2]
  have e1 := HW1.out
  have e2 := HW2.out
  have e3 := HW3.out
  have U3 : Upd Non w W3 := (u1.then_non u2).then_non u3
  have b1 := b1.upd (u2.then_non u3) (fun f => f)
  have b2 := b2.upd u3 (fun f => f)
  have h3 := h.non U3
  have hown : ∀ j, x.own p j → j < w.heap.size := fun j hj => h.lt hj
  have hpw : p < w.heap.size := h.blk.lt
  have hwn : x.vs.length ≤ 100000 ∧ x.ms.length ≤ 100000 := by have := hx.2 h0; have := hx.1; have := hL.lt; omega
  have d0 := b1.cell 0
  have H3 := Lib.hid h3
  have HX := Lib.hid hx
  have HX3 := Lib.hid b1
  have HR3 := Lib.hid b2
  have HG3 := Lib.hid b3
  have HU3 := Lib.hid U3
  have CW := Lib.hid (rWord_c H3.out hiL hLl (hL.ne' hiL HX.out.1) 78 #[.pointer (some ⟨w.heap.size, 0, none⟩), .pointer (some ⟨w.heap.size + 2, 0, none⟩)] hcf78
    (fun bb x2 w1 w2 => ∃ q, q.kids = [] ∧ Blk w2 (w.heap.size + 2) 30 (p0 q) ∧ (∀ k, x2.own p k → x.own p k ∨ w1.heap.size ≤ k) ∧ x2.left = x.left ∧ Upd (fun k => x.own p k ∨ k = w.heap.size + 2) w1 w2 ∧ (bb = true → ∃ ps, operF left L[x.i].s (psOf x) = some (q, ps) ∧ ps.i = x.i ∧ x2.vs = ps.vs ∧ x2.ms = ps.ms) ∧ (bb = false → operF left L[x.i].s (psOf x) = none))
    (fun hok w1 u01 => by
      rw [hL.word HX.out.1, Bool.and_eq_true, beq_iff_eq] at hok
      obtain ⟨sw, hsw⟩ := Option.isSome_iff_exists.1 hok.2
      obtain ⟨f1, f2, f3, f4, f5, f6, f7⟩ := hL.at_ hiL hsw
      refine (rApplication1_c (H3.out.non u01) hwn.2 L[x.i].s (by rw [f1]; omega) (.mk 0 0 0 0 []) (HG3.out.upd u01 (fun f => f)) (HX3.out.upd u01 (fun f => f)) (fun q => by have := hown _ q; omega) (by omega)).mono ?_
      rintro e w2 ⟨q, b, y, rfl, k1, k2, k3, k4, k5, k6, k7⟩
      rw [hl] at k6 k7
      exact ⟨b, y, rfl, k3, k4.i, k4.why.trans hok.1, k5.mono (fun k _ r => by rcases r with r | r; have := hown _ r; omega; omega), k4.own, q, k1, k2, k4.own, k4.left, k5, k6, k7⟩))
  clear h h3 b1 b2 b3 u1 u2 u3 U3 HW1 HW2 HW3 hx
  go_enter Try.func63, Try.ntmps63
  go_wp2_with fail
  refine CW.out.mono ?_
  rintro e w5 hwd
  have HWD := Lib.hid hwd
  clear hwd CW
  obtain ⟨r0, Hr0⟩ := nm (wrdF T fin (operF left) (psOf x))
  obtain ⟨q0, y0, ev, hq5, hqk, hy5, hgy, hyl, hyo, hu5, hrs⟩ : ∃ (q : Pt) (y : St), (∃ v, e = .returned v) ∧ Blk w5 (w.heap.size + 2) 30 (p0 q) ∧ q.kids = [] ∧ RdS w5 p A c L y ∧ Good T y ∧ y.left = x.left ∧ (∀ k, y.own p k → x.own p k ∨ W3.heap.size ≤ k) ∧ Upd (fun k => x.own p k ∨ k = w.heap.size + 2 ∨ k = W3.heap.size) W3 w5 ∧ ResS x y r0 (fun v => v = q ∧ x.i + 1 ≤ y.i) := by
    have hpos := hL.pos HX.out.1
    rcases HWD.out with ⟨hok, bb, x2, w1, w2, u01, ⟨q, hqk, hqb, hqo, hql, hqu, ht, hff⟩, hi2, hw2, _, u2, rfl, hR⟩ | ⟨hok, rfl, hR, hu⟩
    · rw [hL.word HX.out.1, Bool.and_eq_true, beq_iff_eq] at hok
      obtain ⟨sw, hsw⟩ := Option.isSome_iff_exists.1 hok.2
      obtain ⟨f1, f2, f3, f4, f5, f6, f7⟩ := hL.at_ hiL hsw
      rw [f1] at ht hff
      have hwr := Hr0.out.symm
      rw [wrd_eq, show (psOf x).i = x.i from rfl, hsw] at hwr
      dsimp only at hwr
      have hsz := u01.size
      have hqb5 : Blk w5 (w.heap.size + 2) 30 (p0 q) := hqb.upd u2 (by omega)
      have hu5 : Upd (fun k => x.own p k ∨ k = w.heap.size + 2 ∨ k = W3.heap.size) W3 w5 := (u01.mono (fun _ _ f => f.elim)).trans ((hqu.mono (T := fun k => x.own p k ∨ k = w.heap.size + 2 ∨ k = W3.heap.size) (fun _ _ h => by rcases h with h | h; exact .inl h; exact .inr (.inl h))).trans u2 (fun _ _ h => by rcases h with h | h; exact .inl (.inl h); exact .inr (.inr h))) (fun _ _ h => h)
      have ho5 : ∀ k, x2.own p k → x.own p k ∨ W3.heap.size ≤ k := fun k hk => (hqo k hk).imp_right (fun r => Nat.le_trans u01.size r)
      cases bb with
      | true =>
        obtain ⟨ps, ha, hpi, hvs, hms⟩ := ht rfl
        rw [ha] at hwr
        have hgx := HX.out.2 hok.1
        have hol := oper_len ha
        refine ⟨q, { x2 with i := x.i + 1 }, ⟨_, rfl⟩, hqb5, hqk, hR, ⟨f5, fun _ => ?_⟩, hql, ho5, hu5, fun _ => ?_, fun q => absurd hok.1 q⟩
        · show x2.vs.length ≤ x.i + 1 ∧ x2.ms.length ≤ x.i + 1
          rw [hvs, hms]
          have : (psOf x).vs.length = x.vs.length := rfl
          have : (psOf x).ms.length = x.ms.length := rfl
          omega
        · rw [hwr]
          refine ⟨hw2, ?_, rfl, Nat.le_refl _⟩
          show (⟨x.i + 1, x2.vs, x2.ms⟩ : PS) = ⟨x.i + 1, ps.vs, ps.ms⟩
          rw [hvs, hms]
      | false =>
        rw [hff rfl] at hwr
        refine ⟨q, x2.fail 2 (posT L x.i), ⟨_, rfl⟩, hqb5, hqk, hR, Good.fail (by rw [hi2]; omega) (by decide), by rw [fail_left]; exact hql, fun k hk => ho5 k ((fail_own _ _ _ _ _).1 hk), hu5, fun _ => ?_, fun q => absurd hok.1 q⟩
        rw [hwr, fail_zero hw2, hpos]
        exact ⟨rfl, rfl⟩
    · refine ⟨.mk 0 0 0 0 [], x.fail 2 (posT L x.i), ⟨_, rfl⟩, HG3.out.upd hu (by omega), rfl, hR, Good.fail HX.out.1 (by decide), fail_left _ _ _, fun k hk => .inl ((fail_own _ _ _ _ _).1 hk), hu.mono (fun _ _ h => .inl (.inl h)), fun h0 => ?_, fun h1 => absurd h0 h1⟩
      rw [hL.word HX.out.1, h0] at hok
      have hwr := Hr0.out.symm
      rw [wrd_eq, show (psOf x).i = x.i from rfl] at hwr
      cases hk : wkF T x.i with
      | none =>
        rw [hk] at hwr
        rw [hwr, fail_zero h0, hpos]
        exact ⟨rfl, rfl⟩
      | some sw => rw [hk] at hok; cases hok
  obtain ⟨v, rfl⟩ := ev
  clear HWD
  have HS : Hid (AppS w w5 p A c L x y0 (p0 q0)) := by
    refine ⟨hy5, HX3.out.upd hu5 (fun q => ?_), HR3.out.upd hu5 (fun q => ?_), hq5, fun k hk => (hyo k hk).imp_right (fun r => by omega), hown, (HU3.out.mono (fun _ _ f => f.elim)).trans hu5 (fun j hj r => ?_)⟩
    · rcases q with q | q | q
      · have := hown _ q; omega
      · omega
      · omega
    · rcases q with q | q | q
      · have := hown _ q; omega
      · omega
      · omega
    · rcases r with r | r | r
      · exact r
      · omega
      · omega
  have HR0 : Hid (ResS x y0 (wrdF T fin (operF left) (psOf x)) (fun v => v = q0 ∧ x.i + 1 ≤ y0.i)) := by show ResS _ _ _ _; rw [Hr0.out]; exact hrs
  unfold p0 at hq5
  have z1 := hq5.cell 1
  obtain ⟨n, Hn⟩ := nm ((arF q0.op).getD 0)
  have CA := Lib.hid (rArity_c q0.op w5)
  rw [Hn.out] at CA
  have hn3 : n ≤ 3 := by rw [← Hn.out]; exact arF_le _
  have HG := Lib.hid hgy
  have HYL : Hid (y0.left = left) := hyl.trans hl
  clear hq5 hy5 hgy hyo hu5 hrs hyl d0 e1 e2 e3 Hr0 H3 HX3 HR3 HG3 HU3
  go_wp2_with fail
  refine CA.out.mono ?_
  rintro e wa ⟨rfl, rfl⟩
  clear CA z1
  go_wp2_with fail
  go_loopg [6] n (fun g i wr => ∃ (j : Nat) (Ak : Option Addr) (ck : Nat) (ks : List Pt) (y : St), Hid (g = n - j) ∧ j ≤ n ∧ i = .int .i64 j ∧ Hid (AppS w wr p A c L x y #[.int .i64 q0.v, .int .i64 q0.op, .int .i64 q0.imm, .int .i64 q0.iv, .slice Ak j ck]) ∧ Hid (KO (w.heap.size + 3) p wr y Ak j ck ks) ∧ Hid (Good T y) ∧ Hid (y.left = left) ∧ Hid (ResS y0 y (kidsF (termF T fin left f) j (psOf y0)) (fun v => v = ks)) ∧ Hid (y.why = 0 → Pt.sizeL ks + y0.i ≤ y.i))
  case atStart => exact ⟨0, none, 0, [], y0, rfl, Nat.zero_le _, rfl, HS.out, KO.nil, HG.out, HYL.out, ⟨fun h => ⟨h, rfl, rfl⟩, fun h => ⟨rfl, rfl⟩⟩, fun _ => by show Pt.sizeL [] + y0.i ≤ y0.i; simp [Pt.sizeL]⟩
  case round =>
    obtain ⟨j, Ak, ck, ks, y, Hg, hj, rfl, HS1, HK, HG1, HL1, HR, HZ⟩ := hrel
    obtain ⟨D, HD⟩ := nm (decide (j < n) && (y.why == 0))
    have hyi : y.i < L.length := by have := hL.lt; have := HG1.out.1; omega
    have d0 := HS1.out.box.cell 0
    clear HS HG HYL
    go_upto_region 5 with fail
    go_cut [22] (fun s wx => s = .bool D ∧ wx = wr)
    case first =>
      have CO := Lib.hid (rOk_c HS1.out.rd)
      obtain ⟨bw, Hbw⟩ := nm (y.why == 0)
      rw [Hbw.out] at CO HD
      by_cases hlt : j < n
      · have tj : decide ((j : Int) < (n : Int)) = true := decide_eq_true (by omega)
        have hD : D = bw := by rw [← HD.out, decide_eq_true hlt]; rfl
        subst hD
        go_wp2_with fail
        refine CO.out.mono ?_
        rintro e w2 ⟨rfl, rfl⟩
        go_wp2_with fail
        go_meet
        case rel => exact ⟨rfl, rfl⟩
      · have tj : decide ((j : Int) < (n : Int)) = false := decide_eq_false (by omega)
        have hD : D = false := by rw [← HD.out, decide_eq_false hlt]; rfl
        subst hD
        go_wp2_with fail
        go_meet
        case rel => exact ⟨rfl, rfl⟩
    case rest =>
      obtain ⟨rfl, hwc⟩ := hcut
      subst hwc
      obtain ⟨wr, rfl⟩ : ∃ v : World, v = wc := ⟨_, rfl⟩
      cases D with
      | true =>
        have hDD := HD.out
        simp only [Bool.and_eq_true, decide_eq_true_eq, beq_iff_eq] at hDD
        have hlt := hDD.1
        have H0Y : Hid (y.why = 0) := hDD.2
        have HFU : Hid (T.length < y.i + f) := by
          show T.length < y.i + f
          have h00 : y0.why = 0 := by
            by_cases q : y0.why = 0
            · exact q
            · exact absurd ((HR.out.2 q).1 ▸ hDD.2) q
          have h1 := HZ.out hDD.2
          have h2 := HR0.out.1 h0
          cases hw : wrdF T fin (operF left) (psOf x) with
          | error e => rw [hw] at h2; exact absurd (h2.1 ▸ h00) (wrdF_err hw)
          | ok v => rw [hw] at h2; have : x.i + 1 ≤ y0.i := h2.2.2.2; omega
        have HG := HG1
        have HYL := HL1
        clear hDD HD
        go_upto_region 7 with fail
        obtain ⟨wD, HwD⟩ := nm wr.drew
        have uD : Upd Non wr wD := by rw [← HwD.out]; exact Upd.refl.drew
        have HS := Lib.hid (HS1.out.non uD)
        have HK := Lib.hid (HK.out.non uD)
        refine wp_region_held_drew (S := fun w' => w'.cell? ⟨w.heap.size, 0, none⟩ = some (.pointer (some ⟨p, 0, none⟩))) (by kernel_rfl) (by rw [HwD.out]; exact HS.out.box.cell 0) (fun hHeld => ?_)
        rw [HwD.out] at hHeld ⊢
        clear d0 HS1
        refine wpAnyH_take (i := 0) (v := ?_) rfl (by kernel_rfl) (by kernel_rfl) (by kernel_rfl) (fun _ _ _ h => h) (Or.inl ⟨by rfl, ?_⟩) (by assumption) ?_
        rotate_left
        · intro w hSw; (try dsimp only at hSw); go_simp; try with_reducible rfl
        try simp only [put_y]
        try simp only [Act.put]
        try simp only [put_z]
        refine wpAnyH_take (i := 2) (v := ?_) rfl (by kernel_rfl) (by kernel_rfl) (by kernel_rfl) (fun _ _ _ h => h) (Or.inl ⟨by rfl, ?_⟩) (by assumption) ?_
        rotate_left
        · intro w hSw; (try dsimp only at hSw); go_simp; try with_reducible rfl
        try simp only [put_y]
        try simp only [Act.put]
        try simp only [put_z]
        refine wpAnyH_ready (rs := [1, 3, 5]) (by kernel_rfl) (by simp) ?_
        refine AllReadyH.cons rfl (fun K hK => ?_) (AllReadyH.cons rfl (fun K hK => ?_) (AllReadyH.cons rfl (fun K hK => ?_) AllReadyH.nil))
        · have d4 := HS.out.pat.cell 4
          go_simp
          refine hK.out _ _ ?_ (fun hHeld => ?_)
          · exact HS.out.box.cell 0
          clear hK K
          try simp only [put_y]
          try simp only [Act.put]
          try simp only [put_z]
          clear d4
          refine wpAnyH_take (i := 4) (v := ?_) rfl (by kernel_rfl) (by kernel_rfl) (by kernel_rfl) (fun _ _ _ h => h) (Or.inl ⟨by rfl, ?_⟩) (by assumption) ?_
          rotate_left
          · intro w hSw; (try dsimp only at hSw); go_simp; try with_reducible rfl
          try simp only [put_y]
          try simp only [Act.put]
          try simp only [put_z]
          refine wpAnyH_ready (rs := [3, 5]) (by kernel_rfl) (by simp) ?_
          refine AllReadyH.cons rfl (fun K hK => ?_) (AllReadyH.cons rfl (fun K hK => ?_) AllReadyH.nil)
          · go_simp
            have HLT0 : Hid (∀ k, At Ak k → k < _) := fun k r => HK.out.1.lt r
            have HN1 := Lib.hid HS.out.le
            have HLT := HLT0
            refine (HT.out HS.out.rd HG.out HYL.out H0Y.out HFU.out).mono ?_
            rintro e w6 ⟨q, KA, kc, y', rfl, hq, hy', hg', hl', ho', hu', hres⟩
            have HSO := HS
            have HS := Lib.hid (HS.out.call hy' ho' hu')
            have HG2 := Lib.hid hg'
            have HL2 : Hid (y'.left = left) := hl'.trans HYL.out
            have HRS := Lib.hid hres
            have HQ := Lib.hid hq
            have HK := Lib.hid (HK.out.step HSO.out.rd hu' ho')
            clear hq hy' hg' hl' ho' hu' hres
            unfold pv
            go_wp2_with fail
            refine hK.out _ _ ?_ (fun hHeld => ?_)
            · exact HS.out.box.cell 0
            clear hK K
            try simp only [put_y]
            try simp only [Act.put]
            try simp only [put_z]
            refine wpAnyH_ready (rs := [5]) (by kernel_rfl) (by simp) ?_
            refine AllReadyH.cons rfl (fun K hK => ?_) AllReadyH.nil
            go_simp
            have HQ := Lib.hid (PtK.upd (Upd.refl.alloc (.cells #[.int .i64 0, .int .i64 0, .int .i64 0, .int .i64 0, .slice none 0 0] 30) (S := Non)) (fun _ _ _ f => f) _ _ _ HQ.out)
            have HS := Lib.hid (HS.out.non (Upd.refl.alloc (.cells #[.int .i64 0, .int .i64 0, .int .i64 0, .int .i64 0, .slice none 0 0] 30) (S := Non)))
            have HK := Lib.hid (HK.out.non (Upd.refl.alloc (.cells #[.int .i64 0, .int .i64 0, .int .i64 0, .int .i64 0, .slice none 0 0] 30) (S := Non)))
            refine hK.out _ _ ?_ (fun hHeld => ?_)
            · exact HS.out.box.cell 0
            clear hK K
            try simp only [put_y]
            try simp only [Act.put]
            try simp only [put_z]
            refine wpAnyH_ready (rs := [6]) (by kernel_rfl) (by simp) ?_
            refine AllReadyH.cons rfl (fun K hK => ?_) AllReadyH.nil
            obtain ⟨hkn, cs8, hko, hkc⟩ := id HK.out.1
            have hjc : j ≤ ck := hko.le
            refine step_app rfl rfl T_pats rfl hko rfl (Sl.new _ _ _) rfl (by simp [Value.oneCell']) (by simp only [maxLen]; omega) (by omega) ?_
            intro A8 c8 w8 ho8 hu8 hat8
            have HK2 := Lib.hid (KO2.of hkn hkc HK.out.2 HS.out.le ho8 hu8 hat8)
            have HSP := HS
            have HS := Lib.hid (HS.out.far hu8 HK.out.2 (HSP.out.rd.own_ne hko) hpw)
            have HQ8 := Lib.hid (PtK.past HQ.out HLT.out HN1.out hu8 hat8)
            clear hkn hko hkc ho8 hu8 hat8
            refine hK.out _ _ ?_ (fun hHeld => ?_)
            · exact HS.out.box.cell 0
            clear hK K
            try simp only [put_y]
            try simp only [Act.put]
            try simp only [put_z]
            obtain ⟨g, rfl, hc5, hf5⟩ := HK2.out.some_
            have tj1 : (j : Int) < (j : Int) + 1 := by omega
            refine wpAnyH_take (i := 7) (v := ?_) rfl (by kernel_rfl) (by kernel_rfl) (by kernel_rfl) (fun _ _ _ h => h) (Or.inl ⟨by rfl, ?_⟩) (by assumption) ?_
            rotate_left
            · intro w hSw; (try dsimp only at hSw); go_simp; try with_reducible rfl
            try simp only [put_y]
            try simp only [Act.put]
            try simp only [put_z]
            refine wpAnyH_take (i := 9) (v := ?_) rfl (by kernel_rfl) (by kernel_rfl) (by kernel_rfl) (fun _ _ _ h => h) (Or.inl ⟨by rfl, ?_⟩) (by assumption) ?_
            rotate_left
            · intro w hSw; (try dsimp only at hSw); go_simp; try with_reducible rfl
            try simp only [put_y]
            try simp only [Act.put]
            try simp only [put_z]
            refine wpAnyH_ready (rs := [8, 10]) (by kernel_rfl) (by simp) ?_
            refine AllReadyH.cons rfl (fun K hK => ?_) (AllReadyH.cons rfl (fun K hK => ?_) AllReadyH.nil)
            · skip
              have k0 := hc5 (j * 5) rfl 0 (by decide)
              have k1 := hc5 (j * 5) rfl 1 (by decide)
              have k2 := hc5 (j * 5) rfl 2 (by decide)
              have k3 := hc5 (j * 5) rfl 3 (by decide)
              have k4 := hc5 (j * 5) rfl 4 (by decide)
              rw [Nat.add_zero] at k0
              unfold zs5 at k0 k1 k2 k3 k4
              go_simp
              rw [set5o_eq]
              have HK9 := Lib.hid (HK2.out.fin HQ8.out rfl (o := j * 5) rfl)
              have HS := Lib.hid (HS.out.far (set5o_upd _ _ (j * 5) (.int .i64 q.v) (.int .i64 q.op) (.int .i64 q.imm) (.int .i64 q.iv) (.slice KA q.kids.length kc)) (fun k e => HK2.out.2.2 k (At.some_.2 e)) (fun k e => HS.out.rd.own_ne (Classical.choose_spec HK2.out.2.1).1 k (At.some_.2 e)) hpw)
              refine hK.out _ _ ?_ (fun hHeld => ?_)
              · exact HS.out.box.cell 0
              clear hK K
              try simp only [put_y]
              try simp only [Act.put]
              try simp only [put_z]
              clear k0 k1 k2 k3 k4 hc5 hf5
              refine wpAnyH_ready (rs := [10]) (by kernel_rfl) (by simp) ?_
              refine AllReadyH.cons rfl (fun K hK => ?_) AllReadyH.nil
              have d4 := HS.out.pat.cell 4
              have f4 := HS.out.pat.frozen 4
              go_simp
              obtain ⟨w9, e9, huu, hsk⟩ := HS.out.kids (.slice (some ⟨g, 0, none⟩) (j + 1) c8)
              rw [e9]
              clear e9
              have HS := Lib.hid hsk
              have HK9 := Lib.hid (HK9.out.near huu (by omega))
              clear hsk huu d4 f4
              refine hK.out _ _ ?_ (fun hHeld => ?_)
              · exact HS.out.box.cell 0
              clear hK K
              try simp only [put_y]
              try simp only [Act.put]
              try simp only [put_z]
              refine wpAnyH_done (by kernel_rfl) ?_ _
              go_wp2_with fail
              go_roundg (n - (j + 1))
              case measure => rw [Hg.out]; omega
              case rel => exact ⟨j + 1, some ⟨g, 0, none⟩, c8, ks ++ [q], y', rfl, by omega, by go_num, HS.out, HK9.out, HG2.out, HL2.out, (kids_step HR.out H0Y.out (termF_err f) HRS.out HZ.out).1, (kids_step HR.out H0Y.out (termF_err f) HRS.out HZ.out).2⟩
            · skip
              have d4 := HS.out.pat.cell 4
              have f4 := HS.out.pat.frozen 4
              go_simp
              obtain ⟨w9, e9, huu, hsk⟩ := HS.out.kids (.slice (some ⟨g, 0, none⟩) (j + 1) c8)
              rw [e9]
              clear e9
              have HS := Lib.hid hsk
              have HK2 := Lib.hid (HK2.out.near huu (by omega))
              have HQ8 := Lib.hid (PtK.upd huu (fun k _ r e => by have := r.1.1; omega) _ _ _ HQ8.out)
              clear hsk huu d4 f4 hc5 hf5
              obtain ⟨g', hg', hc5, hf5⟩ := HK2.out.some_
              injection hg' with hg'; injection hg' with hg'; subst hg'
              refine hK.out _ _ ?_ (fun hHeld => ?_)
              · exact HS.out.box.cell 0
              clear hK K
              try simp only [put_y]
              try simp only [Act.put]
              try simp only [put_z]
              have k0 := hc5 (j * 5) rfl 0 (by decide)
              have k1 := hc5 (j * 5) rfl 1 (by decide)
              have k2 := hc5 (j * 5) rfl 2 (by decide)
              have k3 := hc5 (j * 5) rfl 3 (by decide)
              have k4 := hc5 (j * 5) rfl 4 (by decide)
              rw [Nat.add_zero] at k0
              unfold zs5 at k0 k1 k2 k3 k4
              refine wpAnyH_ready (rs := [8]) (by kernel_rfl) (by simp) ?_
              refine AllReadyH.cons rfl (fun K hK => ?_) AllReadyH.nil
              go_simp
              rw [set5o_eq]
              have HK9 := Lib.hid (HK2.out.fin HQ8.out rfl (o := j * 5) rfl)
              have HS := Lib.hid (HS.out.far (set5o_upd _ _ (j * 5) (.int .i64 q.v) (.int .i64 q.op) (.int .i64 q.imm) (.int .i64 q.iv) (.slice KA q.kids.length kc)) (fun k e => HK2.out.2.2 k (At.some_.2 e)) (fun k e => HS.out.rd.own_ne (Classical.choose_spec HK2.out.2.1).1 k (At.some_.2 e)) hpw)
              refine hK.out _ _ ?_ (fun hHeld => ?_)
              · exact HS.out.box.cell 0
              clear hK K
              try simp only [put_y]
              try simp only [Act.put]
              try simp only [put_z]
              clear k0 k1 k2 k3 k4 hc5 hf5
              refine wpAnyH_done (by kernel_rfl) ?_ _
              go_wp2_with fail
              go_roundg (n - (j + 1))
              case measure => rw [Hg.out]; omega
              case rel => exact ⟨j + 1, some ⟨g, 0, none⟩, c8, ks ++ [q], y', rfl, by omega, by go_num, HS.out, HK9.out, HG2.out, HL2.out, (kids_step HR.out H0Y.out (termF_err f) HRS.out HZ.out).1, (kids_step HR.out H0Y.out (termF_err f) HRS.out HZ.out).2⟩
          · go_simp
            have hlo : ∀ k, y.own p k → k < _ := fun k r => HS.out.rd.lt r
            have HZS := Lib.hid (Sl.new wD 30 [.int .i64 0, .int .i64 0, .int .i64 0, .int .i64 0, .slice none 0 0])
            have HS := Lib.hid (HS.out.non (Upd.refl.alloc (.cells #[.int .i64 0, .int .i64 0, .int .i64 0, .int .i64 0, .slice none 0 0] 30) (S := Non)))
            have HK := Lib.hid (HK.out.non (Upd.refl.alloc (.cells #[.int .i64 0, .int .i64 0, .int .i64 0, .int .i64 0, .slice none 0 0] 30) (S := Non)))
            refine hK.out _ _ ?_ (fun hHeld => ?_)
            · exact HS.out.box.cell 0
            clear hK K
            try simp only [put_y]
            try simp only [Act.put]
            try simp only [put_z]
            refine wpAnyH_ready (rs := [3]) (by kernel_rfl) (by simp) ?_
            refine AllReadyH.cons rfl (fun K hK => ?_) AllReadyH.nil
            go_simp
            have HLT0 : Hid (∀ k, At Ak k → k < _) := fun k r => HK.out.1.lt r
            have HN1 := Lib.hid HS.out.le
            have HLT := HLT0
            refine (HT.out HS.out.rd HG.out HYL.out H0Y.out HFU.out).mono ?_
            rintro e w6 ⟨q, KA, kc, y', rfl, hq, hy', hg', hl', ho', hu', hres⟩
            have HSO := HS
            have HS := Lib.hid (HS.out.call hy' ho' hu')
            have HG2 := Lib.hid hg'
            have HL2 : Hid (y'.left = left) := hl'.trans HYL.out
            have HRS := Lib.hid hres
            have HQ := Lib.hid hq
            have HK := Lib.hid (HK.out.step HSO.out.rd hu' ho')
            have HZS := Lib.hid (HZS.out.upd hu' (fun k _ e r => by subst e; exact Nat.lt_irrefl _ (hlo _ r)))
            clear hq hy' hg' hl' ho' hu' hres
            unfold pv
            go_wp2_with fail
            refine hK.out _ _ ?_ (fun hHeld => ?_)
            · exact HS.out.box.cell 0
            clear hK K
            try simp only [put_y]
            try simp only [Act.put]
            try simp only [put_z]
            refine wpAnyH_ready (rs := [6]) (by kernel_rfl) (by simp) ?_
            refine AllReadyH.cons rfl (fun K hK => ?_) AllReadyH.nil
            obtain ⟨hkn, cs8, hko, hkc⟩ := id HK.out.1
            have hjc : j ≤ ck := hko.le
            refine step_app rfl rfl T_pats rfl hko rfl HZS.out rfl (by simp [Value.oneCell']) (by simp only [maxLen]; omega) (by omega) ?_
            intro A8 c8 w8 ho8 hu8 hat8
            have HK2 := Lib.hid (KO2.of hkn hkc HK.out.2 HS.out.le ho8 hu8 hat8)
            have HSP := HS
            have HS := Lib.hid (HS.out.far hu8 HK.out.2 (HSP.out.rd.own_ne hko) hpw)
            have HQ8 := Lib.hid (PtK.past HQ.out HLT.out HN1.out hu8 hat8)
            clear hkn hko hkc ho8 hu8 hat8
            refine hK.out _ _ ?_ (fun hHeld => ?_)
            · exact HS.out.box.cell 0
            clear hK K
            try simp only [put_y]
            try simp only [Act.put]
            try simp only [put_z]
            obtain ⟨g, rfl, hc5, hf5⟩ := HK2.out.some_
            have tj1 : (j : Int) < (j : Int) + 1 := by omega
            refine wpAnyH_take (i := 7) (v := ?_) rfl (by kernel_rfl) (by kernel_rfl) (by kernel_rfl) (fun _ _ _ h => h) (Or.inl ⟨by rfl, ?_⟩) (by assumption) ?_
            rotate_left
            · intro w hSw; (try dsimp only at hSw); go_simp; try with_reducible rfl
            try simp only [put_y]
            try simp only [Act.put]
            try simp only [put_z]
            refine wpAnyH_take (i := 9) (v := ?_) rfl (by kernel_rfl) (by kernel_rfl) (by kernel_rfl) (fun _ _ _ h => h) (Or.inl ⟨by rfl, ?_⟩) (by assumption) ?_
            rotate_left
            · intro w hSw; (try dsimp only at hSw); go_simp; try with_reducible rfl
            try simp only [put_y]
            try simp only [Act.put]
            try simp only [put_z]
            refine wpAnyH_ready (rs := [8, 10]) (by kernel_rfl) (by simp) ?_
            refine AllReadyH.cons rfl (fun K hK => ?_) (AllReadyH.cons rfl (fun K hK => ?_) AllReadyH.nil)
            · skip
              have k0 := hc5 (j * 5) rfl 0 (by decide)
              have k1 := hc5 (j * 5) rfl 1 (by decide)
              have k2 := hc5 (j * 5) rfl 2 (by decide)
              have k3 := hc5 (j * 5) rfl 3 (by decide)
              have k4 := hc5 (j * 5) rfl 4 (by decide)
              rw [Nat.add_zero] at k0
              unfold zs5 at k0 k1 k2 k3 k4
              go_simp
              rw [set5o_eq]
              have HK9 := Lib.hid (HK2.out.fin HQ8.out rfl (o := j * 5) rfl)
              have HS := Lib.hid (HS.out.far (set5o_upd _ _ (j * 5) (.int .i64 q.v) (.int .i64 q.op) (.int .i64 q.imm) (.int .i64 q.iv) (.slice KA q.kids.length kc)) (fun k e => HK2.out.2.2 k (At.some_.2 e)) (fun k e => HS.out.rd.own_ne (Classical.choose_spec HK2.out.2.1).1 k (At.some_.2 e)) hpw)
              refine hK.out _ _ ?_ (fun hHeld => ?_)
              · exact HS.out.box.cell 0
              clear hK K
              try simp only [put_y]
              try simp only [Act.put]
              try simp only [put_z]
              clear k0 k1 k2 k3 k4 hc5 hf5
              refine wpAnyH_ready (rs := [10]) (by kernel_rfl) (by simp) ?_
              refine AllReadyH.cons rfl (fun K hK => ?_) AllReadyH.nil
              have d4 := HS.out.pat.cell 4
              have f4 := HS.out.pat.frozen 4
              go_simp
              obtain ⟨w9, e9, huu, hsk⟩ := HS.out.kids (.slice (some ⟨g, 0, none⟩) (j + 1) c8)
              rw [e9]
              clear e9
              have HS := Lib.hid hsk
              have HK9 := Lib.hid (HK9.out.near huu (by omega))
              clear hsk huu d4 f4
              refine hK.out _ _ ?_ (fun hHeld => ?_)
              · exact HS.out.box.cell 0
              clear hK K
              try simp only [put_y]
              try simp only [Act.put]
              try simp only [put_z]
              refine wpAnyH_done (by kernel_rfl) ?_ _
              go_wp2_with fail
              go_roundg (n - (j + 1))
              case measure => rw [Hg.out]; omega
              case rel => exact ⟨j + 1, some ⟨g, 0, none⟩, c8, ks ++ [q], y', rfl, by omega, by go_num, HS.out, HK9.out, HG2.out, HL2.out, (kids_step HR.out H0Y.out (termF_err f) HRS.out HZ.out).1, (kids_step HR.out H0Y.out (termF_err f) HRS.out HZ.out).2⟩
            · skip
              have d4 := HS.out.pat.cell 4
              have f4 := HS.out.pat.frozen 4
              go_simp
              obtain ⟨w9, e9, huu, hsk⟩ := HS.out.kids (.slice (some ⟨g, 0, none⟩) (j + 1) c8)
              rw [e9]
              clear e9
              have HS := Lib.hid hsk
              have HK2 := Lib.hid (HK2.out.near huu (by omega))
              have HQ8 := Lib.hid (PtK.upd huu (fun k _ r e => by have := r.1.1; omega) _ _ _ HQ8.out)
              clear hsk huu d4 f4 hc5 hf5
              obtain ⟨g', hg', hc5, hf5⟩ := HK2.out.some_
              injection hg' with hg'; injection hg' with hg'; subst hg'
              refine hK.out _ _ ?_ (fun hHeld => ?_)
              · exact HS.out.box.cell 0
              clear hK K
              try simp only [put_y]
              try simp only [Act.put]
              try simp only [put_z]
              have k0 := hc5 (j * 5) rfl 0 (by decide)
              have k1 := hc5 (j * 5) rfl 1 (by decide)
              have k2 := hc5 (j * 5) rfl 2 (by decide)
              have k3 := hc5 (j * 5) rfl 3 (by decide)
              have k4 := hc5 (j * 5) rfl 4 (by decide)
              rw [Nat.add_zero] at k0
              unfold zs5 at k0 k1 k2 k3 k4
              refine wpAnyH_ready (rs := [8]) (by kernel_rfl) (by simp) ?_
              refine AllReadyH.cons rfl (fun K hK => ?_) AllReadyH.nil
              go_simp
              rw [set5o_eq]
              have HK9 := Lib.hid (HK2.out.fin HQ8.out rfl (o := j * 5) rfl)
              have HS := Lib.hid (HS.out.far (set5o_upd _ _ (j * 5) (.int .i64 q.v) (.int .i64 q.op) (.int .i64 q.imm) (.int .i64 q.iv) (.slice KA q.kids.length kc)) (fun k e => HK2.out.2.2 k (At.some_.2 e)) (fun k e => HS.out.rd.own_ne (Classical.choose_spec HK2.out.2.1).1 k (At.some_.2 e)) hpw)
              refine hK.out _ _ ?_ (fun hHeld => ?_)
              · exact HS.out.box.cell 0
              clear hK K
              try simp only [put_y]
              try simp only [Act.put]
              try simp only [put_z]
              clear k0 k1 k2 k3 k4 hc5 hf5
              refine wpAnyH_done (by kernel_rfl) ?_ _
              go_wp2_with fail
              go_roundg (n - (j + 1))
              case measure => rw [Hg.out]; omega
              case rel => exact ⟨j + 1, some ⟨g, 0, none⟩, c8, ks ++ [q], y', rfl, by omega, by go_num, HS.out, HK9.out, HG2.out, HL2.out, (kids_step HR.out H0Y.out (termF_err f) HRS.out HZ.out).1, (kids_step HR.out H0Y.out (termF_err f) HRS.out HZ.out).2⟩
        · go_simp
          have HLT0 : Hid (∀ k, At Ak k → k < _) := fun k r => HK.out.1.lt r
          have HN1 := Lib.hid HS.out.le
          have HLT := HLT0
          refine (HT.out HS.out.rd HG.out HYL.out H0Y.out HFU.out).mono ?_
          rintro e w6 ⟨q, KA, kc, y', rfl, hq, hy', hg', hl', ho', hu', hres⟩
          have HSO := HS
          have HS := Lib.hid (HS.out.call hy' ho' hu')
          have HG2 := Lib.hid hg'
          have HL2 : Hid (y'.left = left) := hl'.trans HYL.out
          have HRS := Lib.hid hres
          have HQ := Lib.hid hq
          have HK := Lib.hid (HK.out.step HSO.out.rd hu' ho')
          clear hq hy' hg' hl' ho' hu' hres
          unfold pv
          go_wp2_with fail
          refine hK.out _ _ ?_ (fun hHeld => ?_)
          · exact HS.out.box.cell 0
          clear hK K
          try simp only [put_y]
          try simp only [Act.put]
          try simp only [put_z]
          have d4 := HS.out.pat.cell 4
          refine wpAnyH_takeM (fun w' => w'.cell? ⟨w.heap.size + 2, 4, none⟩ = some (.slice Ak j ck)) (calm_cell _ _) [10, 8, 6, 7, 9] (i := 1) (v := ?_) rfl (by kernel_rfl) (by kernel_rfl) (by kernel_rfl) (by kernel_rfl) (fun _ _ _ h => h) (Or.inl ⟨by rfl, ?_⟩) (d4) (by assumption) ?_
          rotate_left
          · intro w hSw; (try dsimp only at hSw); go_simp; try with_reducible rfl
          try simp only [put_y]
          try simp only [Act.put]
          try simp only [put_z]
          clear d4
          refine wpAnyH_take (i := 4) (v := ?_) rfl (by kernel_rfl) (by kernel_rfl) (by kernel_rfl) (fun _ _ _ h => h) (Or.inl ⟨by rfl, ?_⟩) (by assumption) ?_
          rotate_left
          · intro w hSw; (try dsimp only at hSw); go_simp; try with_reducible rfl
          try simp only [put_y]
          try simp only [Act.put]
          try simp only [put_z]
          refine wpAnyH_ready (rs := [5]) (by kernel_rfl) (by simp) ?_
          refine AllReadyH.cons rfl (fun K hK => ?_) AllReadyH.nil
          go_simp
          have HQ := Lib.hid (PtK.upd (Upd.refl.alloc (.cells #[.int .i64 0, .int .i64 0, .int .i64 0, .int .i64 0, .slice none 0 0] 30) (S := Non)) (fun _ _ _ f => f) _ _ _ HQ.out)
          have HS := Lib.hid (HS.out.non (Upd.refl.alloc (.cells #[.int .i64 0, .int .i64 0, .int .i64 0, .int .i64 0, .slice none 0 0] 30) (S := Non)))
          have HK := Lib.hid (HK.out.non (Upd.refl.alloc (.cells #[.int .i64 0, .int .i64 0, .int .i64 0, .int .i64 0, .slice none 0 0] 30) (S := Non)))
          refine hK.out _ _ ?_ (fun hHeld => ?_)
          · exact HS.out.box.cell 0
          clear hK K
          try simp only [put_y]
          try simp only [Act.put]
          try simp only [put_z]
          refine wpAnyH_ready (rs := [6]) (by kernel_rfl) (by simp) ?_
          refine AllReadyH.cons rfl (fun K hK => ?_) AllReadyH.nil
          obtain ⟨hkn, cs8, hko, hkc⟩ := id HK.out.1
          have hjc : j ≤ ck := hko.le
          refine step_app rfl rfl T_pats rfl hko rfl (Sl.new _ _ _) rfl (by simp [Value.oneCell']) (by simp only [maxLen]; omega) (by omega) ?_
          intro A8 c8 w8 ho8 hu8 hat8
          have HK2 := Lib.hid (KO2.of hkn hkc HK.out.2 HS.out.le ho8 hu8 hat8)
          have HSP := HS
          have HS := Lib.hid (HS.out.far hu8 HK.out.2 (HSP.out.rd.own_ne hko) hpw)
          have HQ8 := Lib.hid (PtK.past HQ.out HLT.out HN1.out hu8 hat8)
          clear hkn hko hkc ho8 hu8 hat8
          refine hK.out _ _ ?_ (fun hHeld => ?_)
          · exact HS.out.box.cell 0
          clear hK K
          try simp only [put_y]
          try simp only [Act.put]
          try simp only [put_z]
          obtain ⟨g, rfl, hc5, hf5⟩ := HK2.out.some_
          have tj1 : (j : Int) < (j : Int) + 1 := by omega
          refine wpAnyH_take (i := 7) (v := ?_) rfl (by kernel_rfl) (by kernel_rfl) (by kernel_rfl) (fun _ _ _ h => h) (Or.inl ⟨by rfl, ?_⟩) (by assumption) ?_
          rotate_left
          · intro w hSw; (try dsimp only at hSw); go_simp; try with_reducible rfl
          try simp only [put_y]
          try simp only [Act.put]
          try simp only [put_z]
          refine wpAnyH_take (i := 9) (v := ?_) rfl (by kernel_rfl) (by kernel_rfl) (by kernel_rfl) (fun _ _ _ h => h) (Or.inl ⟨by rfl, ?_⟩) (by assumption) ?_
          rotate_left
          · intro w hSw; (try dsimp only at hSw); go_simp; try with_reducible rfl
          try simp only [put_y]
          try simp only [Act.put]
          try simp only [put_z]
          refine wpAnyH_ready (rs := [8, 10]) (by kernel_rfl) (by simp) ?_
          refine AllReadyH.cons rfl (fun K hK => ?_) (AllReadyH.cons rfl (fun K hK => ?_) AllReadyH.nil)
          · skip
            have k0 := hc5 (j * 5) rfl 0 (by decide)
            have k1 := hc5 (j * 5) rfl 1 (by decide)
            have k2 := hc5 (j * 5) rfl 2 (by decide)
            have k3 := hc5 (j * 5) rfl 3 (by decide)
            have k4 := hc5 (j * 5) rfl 4 (by decide)
            rw [Nat.add_zero] at k0
            unfold zs5 at k0 k1 k2 k3 k4
            go_simp
            rw [set5o_eq]
            have HK9 := Lib.hid (HK2.out.fin HQ8.out rfl (o := j * 5) rfl)
            have HS := Lib.hid (HS.out.far (set5o_upd _ _ (j * 5) (.int .i64 q.v) (.int .i64 q.op) (.int .i64 q.imm) (.int .i64 q.iv) (.slice KA q.kids.length kc)) (fun k e => HK2.out.2.2 k (At.some_.2 e)) (fun k e => HS.out.rd.own_ne (Classical.choose_spec HK2.out.2.1).1 k (At.some_.2 e)) hpw)
            refine hK.out _ _ ?_ (fun hHeld => ?_)
            · exact HS.out.box.cell 0
            clear hK K
            try simp only [put_y]
            try simp only [Act.put]
            try simp only [put_z]
            clear k0 k1 k2 k3 k4 hc5 hf5
            refine wpAnyH_ready (rs := [10]) (by kernel_rfl) (by simp) ?_
            refine AllReadyH.cons rfl (fun K hK => ?_) AllReadyH.nil
            have d4 := HS.out.pat.cell 4
            have f4 := HS.out.pat.frozen 4
            go_simp
            obtain ⟨w9, e9, huu, hsk⟩ := HS.out.kids (.slice (some ⟨g, 0, none⟩) (j + 1) c8)
            rw [e9]
            clear e9
            have HS := Lib.hid hsk
            have HK9 := Lib.hid (HK9.out.near huu (by omega))
            clear hsk huu d4 f4
            refine hK.out _ _ ?_ (fun hHeld => ?_)
            · exact HS.out.box.cell 0
            clear hK K
            try simp only [put_y]
            try simp only [Act.put]
            try simp only [put_z]
            refine wpAnyH_done (by kernel_rfl) ?_ _
            go_wp2_with fail
            go_roundg (n - (j + 1))
            case measure => rw [Hg.out]; omega
            case rel => exact ⟨j + 1, some ⟨g, 0, none⟩, c8, ks ++ [q], y', rfl, by omega, by go_num, HS.out, HK9.out, HG2.out, HL2.out, (kids_step HR.out H0Y.out (termF_err f) HRS.out HZ.out).1, (kids_step HR.out H0Y.out (termF_err f) HRS.out HZ.out).2⟩
          · skip
            have d4 := HS.out.pat.cell 4
            have f4 := HS.out.pat.frozen 4
            go_simp
            obtain ⟨w9, e9, huu, hsk⟩ := HS.out.kids (.slice (some ⟨g, 0, none⟩) (j + 1) c8)
            rw [e9]
            clear e9
            have HS := Lib.hid hsk
            have HK2 := Lib.hid (HK2.out.near huu (by omega))
            have HQ8 := Lib.hid (PtK.upd huu (fun k _ r e => by have := r.1.1; omega) _ _ _ HQ8.out)
            clear hsk huu d4 f4 hc5 hf5
            obtain ⟨g', hg', hc5, hf5⟩ := HK2.out.some_
            injection hg' with hg'; injection hg' with hg'; subst hg'
            refine hK.out _ _ ?_ (fun hHeld => ?_)
            · exact HS.out.box.cell 0
            clear hK K
            try simp only [put_y]
            try simp only [Act.put]
            try simp only [put_z]
            have k0 := hc5 (j * 5) rfl 0 (by decide)
            have k1 := hc5 (j * 5) rfl 1 (by decide)
            have k2 := hc5 (j * 5) rfl 2 (by decide)
            have k3 := hc5 (j * 5) rfl 3 (by decide)
            have k4 := hc5 (j * 5) rfl 4 (by decide)
            rw [Nat.add_zero] at k0
            unfold zs5 at k0 k1 k2 k3 k4
            refine wpAnyH_ready (rs := [8]) (by kernel_rfl) (by simp) ?_
            refine AllReadyH.cons rfl (fun K hK => ?_) AllReadyH.nil
            go_simp
            rw [set5o_eq]
            have HK9 := Lib.hid (HK2.out.fin HQ8.out rfl (o := j * 5) rfl)
            have HS := Lib.hid (HS.out.far (set5o_upd _ _ (j * 5) (.int .i64 q.v) (.int .i64 q.op) (.int .i64 q.imm) (.int .i64 q.iv) (.slice KA q.kids.length kc)) (fun k e => HK2.out.2.2 k (At.some_.2 e)) (fun k e => HS.out.rd.own_ne (Classical.choose_spec HK2.out.2.1).1 k (At.some_.2 e)) hpw)
            refine hK.out _ _ ?_ (fun hHeld => ?_)
            · exact HS.out.box.cell 0
            clear hK K
            try simp only [put_y]
            try simp only [Act.put]
            try simp only [put_z]
            clear k0 k1 k2 k3 k4 hc5 hf5
            refine wpAnyH_done (by kernel_rfl) ?_ _
            go_wp2_with fail
            go_roundg (n - (j + 1))
            case measure => rw [Hg.out]; omega
            case rel => exact ⟨j + 1, some ⟨g, 0, none⟩, c8, ks ++ [q], y', rfl, by omega, by go_num, HS.out, HK9.out, HG2.out, HL2.out, (kids_step HR.out H0Y.out (termF_err f) HRS.out HZ.out).1, (kids_step HR.out H0Y.out (termF_err f) HRS.out HZ.out).2⟩
        · go_simp
          have hlo : ∀ k, y.own p k → k < _ := fun k r => HS.out.rd.lt r
          have HZS := Lib.hid (Sl.new wD 30 [.int .i64 0, .int .i64 0, .int .i64 0, .int .i64 0, .slice none 0 0])
          have HS := Lib.hid (HS.out.non (Upd.refl.alloc (.cells #[.int .i64 0, .int .i64 0, .int .i64 0, .int .i64 0, .slice none 0 0] 30) (S := Non)))
          have HK := Lib.hid (HK.out.non (Upd.refl.alloc (.cells #[.int .i64 0, .int .i64 0, .int .i64 0, .int .i64 0, .slice none 0 0] 30) (S := Non)))
          refine hK.out _ _ ?_ (fun hHeld => ?_)
          · exact HS.out.box.cell 0
          clear hK K
          try simp only [put_y]
          try simp only [Act.put]
          try simp only [put_z]
          refine wpAnyH_ready (rs := [1, 3]) (by kernel_rfl) (by simp) ?_
          refine AllReadyH.cons rfl (fun K hK => ?_) (AllReadyH.cons rfl (fun K hK => ?_) AllReadyH.nil)
          · have d4 := HS.out.pat.cell 4
            go_simp
            refine hK.out _ _ ?_ (fun hHeld => ?_)
            · exact HS.out.box.cell 0
            clear hK K
            try simp only [put_y]
            try simp only [Act.put]
            try simp only [put_z]
            clear d4
            refine wpAnyH_take (i := 4) (v := ?_) rfl (by kernel_rfl) (by kernel_rfl) (by kernel_rfl) (fun _ _ _ h => h) (Or.inl ⟨by rfl, ?_⟩) (by assumption) ?_
            rotate_left
            · intro w hSw; (try dsimp only at hSw); go_simp; try with_reducible rfl
            try simp only [put_y]
            try simp only [Act.put]
            try simp only [put_z]
            refine wpAnyH_ready (rs := [3]) (by kernel_rfl) (by simp) ?_
            refine AllReadyH.cons rfl (fun K hK => ?_) AllReadyH.nil
            go_simp
            have HLT0 : Hid (∀ k, At Ak k → k < _) := fun k r => HK.out.1.lt r
            have HN1 := Lib.hid HS.out.le
            have HLT := HLT0
            refine (HT.out HS.out.rd HG.out HYL.out H0Y.out HFU.out).mono ?_
            rintro e w6 ⟨q, KA, kc, y', rfl, hq, hy', hg', hl', ho', hu', hres⟩
            have HSO := HS
            have HS := Lib.hid (HS.out.call hy' ho' hu')
            have HG2 := Lib.hid hg'
            have HL2 : Hid (y'.left = left) := hl'.trans HYL.out
            have HRS := Lib.hid hres
            have HQ := Lib.hid hq
            have HK := Lib.hid (HK.out.step HSO.out.rd hu' ho')
            have HZS := Lib.hid (HZS.out.upd hu' (fun k _ e r => by subst e; exact Nat.lt_irrefl _ (hlo _ r)))
            clear hq hy' hg' hl' ho' hu' hres
            unfold pv
            go_wp2_with fail
            refine hK.out _ _ ?_ (fun hHeld => ?_)
            · exact HS.out.box.cell 0
            clear hK K
            try simp only [put_y]
            try simp only [Act.put]
            try simp only [put_z]
            refine wpAnyH_ready (rs := [6]) (by kernel_rfl) (by simp) ?_
            refine AllReadyH.cons rfl (fun K hK => ?_) AllReadyH.nil
            obtain ⟨hkn, cs8, hko, hkc⟩ := id HK.out.1
            have hjc : j ≤ ck := hko.le
            refine step_app rfl rfl T_pats rfl hko rfl HZS.out rfl (by simp [Value.oneCell']) (by simp only [maxLen]; omega) (by omega) ?_
            intro A8 c8 w8 ho8 hu8 hat8
            have HK2 := Lib.hid (KO2.of hkn hkc HK.out.2 HS.out.le ho8 hu8 hat8)
            have HSP := HS
            have HS := Lib.hid (HS.out.far hu8 HK.out.2 (HSP.out.rd.own_ne hko) hpw)
            have HQ8 := Lib.hid (PtK.past HQ.out HLT.out HN1.out hu8 hat8)
            clear hkn hko hkc ho8 hu8 hat8
            refine hK.out _ _ ?_ (fun hHeld => ?_)
            · exact HS.out.box.cell 0
            clear hK K
            try simp only [put_y]
            try simp only [Act.put]
            try simp only [put_z]
            obtain ⟨g, rfl, hc5, hf5⟩ := HK2.out.some_
            have tj1 : (j : Int) < (j : Int) + 1 := by omega
            refine wpAnyH_take (i := 7) (v := ?_) rfl (by kernel_rfl) (by kernel_rfl) (by kernel_rfl) (fun _ _ _ h => h) (Or.inl ⟨by rfl, ?_⟩) (by assumption) ?_
            rotate_left
            · intro w hSw; (try dsimp only at hSw); go_simp; try with_reducible rfl
            try simp only [put_y]
            try simp only [Act.put]
            try simp only [put_z]
            refine wpAnyH_take (i := 9) (v := ?_) rfl (by kernel_rfl) (by kernel_rfl) (by kernel_rfl) (fun _ _ _ h => h) (Or.inl ⟨by rfl, ?_⟩) (by assumption) ?_
            rotate_left
            · intro w hSw; (try dsimp only at hSw); go_simp; try with_reducible rfl
            try simp only [put_y]
            try simp only [Act.put]
            try simp only [put_z]
            refine wpAnyH_ready (rs := [8, 10]) (by kernel_rfl) (by simp) ?_
            refine AllReadyH.cons rfl (fun K hK => ?_) (AllReadyH.cons rfl (fun K hK => ?_) AllReadyH.nil)
            · skip
              have k0 := hc5 (j * 5) rfl 0 (by decide)
              have k1 := hc5 (j * 5) rfl 1 (by decide)
              have k2 := hc5 (j * 5) rfl 2 (by decide)
              have k3 := hc5 (j * 5) rfl 3 (by decide)
              have k4 := hc5 (j * 5) rfl 4 (by decide)
              rw [Nat.add_zero] at k0
              unfold zs5 at k0 k1 k2 k3 k4
              go_simp
              rw [set5o_eq]
              have HK9 := Lib.hid (HK2.out.fin HQ8.out rfl (o := j * 5) rfl)
              have HS := Lib.hid (HS.out.far (set5o_upd _ _ (j * 5) (.int .i64 q.v) (.int .i64 q.op) (.int .i64 q.imm) (.int .i64 q.iv) (.slice KA q.kids.length kc)) (fun k e => HK2.out.2.2 k (At.some_.2 e)) (fun k e => HS.out.rd.own_ne (Classical.choose_spec HK2.out.2.1).1 k (At.some_.2 e)) hpw)
              refine hK.out _ _ ?_ (fun hHeld => ?_)
              · exact HS.out.box.cell 0
              clear hK K
              try simp only [put_y]
              try simp only [Act.put]
              try simp only [put_z]
              clear k0 k1 k2 k3 k4 hc5 hf5
              refine wpAnyH_ready (rs := [10]) (by kernel_rfl) (by simp) ?_
              refine AllReadyH.cons rfl (fun K hK => ?_) AllReadyH.nil
              have d4 := HS.out.pat.cell 4
              have f4 := HS.out.pat.frozen 4
              go_simp
              obtain ⟨w9, e9, huu, hsk⟩ := HS.out.kids (.slice (some ⟨g, 0, none⟩) (j + 1) c8)
              rw [e9]
              clear e9
              have HS := Lib.hid hsk
              have HK9 := Lib.hid (HK9.out.near huu (by omega))
              clear hsk huu d4 f4
              refine hK.out _ _ ?_ (fun hHeld => ?_)
              · exact HS.out.box.cell 0
              clear hK K
              try simp only [put_y]
              try simp only [Act.put]
              try simp only [put_z]
              refine wpAnyH_done (by kernel_rfl) ?_ _
              go_wp2_with fail
              go_roundg (n - (j + 1))
              case measure => rw [Hg.out]; omega
              case rel => exact ⟨j + 1, some ⟨g, 0, none⟩, c8, ks ++ [q], y', rfl, by omega, by go_num, HS.out, HK9.out, HG2.out, HL2.out, (kids_step HR.out H0Y.out (termF_err f) HRS.out HZ.out).1, (kids_step HR.out H0Y.out (termF_err f) HRS.out HZ.out).2⟩
            · skip
              have d4 := HS.out.pat.cell 4
              have f4 := HS.out.pat.frozen 4
              go_simp
              obtain ⟨w9, e9, huu, hsk⟩ := HS.out.kids (.slice (some ⟨g, 0, none⟩) (j + 1) c8)
              rw [e9]
              clear e9
              have HS := Lib.hid hsk
              have HK2 := Lib.hid (HK2.out.near huu (by omega))
              have HQ8 := Lib.hid (PtK.upd huu (fun k _ r e => by have := r.1.1; omega) _ _ _ HQ8.out)
              clear hsk huu d4 f4 hc5 hf5
              obtain ⟨g', hg', hc5, hf5⟩ := HK2.out.some_
              injection hg' with hg'; injection hg' with hg'; subst hg'
              refine hK.out _ _ ?_ (fun hHeld => ?_)
              · exact HS.out.box.cell 0
              clear hK K
              try simp only [put_y]
              try simp only [Act.put]
              try simp only [put_z]
              have k0 := hc5 (j * 5) rfl 0 (by decide)
              have k1 := hc5 (j * 5) rfl 1 (by decide)
              have k2 := hc5 (j * 5) rfl 2 (by decide)
              have k3 := hc5 (j * 5) rfl 3 (by decide)
              have k4 := hc5 (j * 5) rfl 4 (by decide)
              rw [Nat.add_zero] at k0
              unfold zs5 at k0 k1 k2 k3 k4
              refine wpAnyH_ready (rs := [8]) (by kernel_rfl) (by simp) ?_
              refine AllReadyH.cons rfl (fun K hK => ?_) AllReadyH.nil
              go_simp
              rw [set5o_eq]
              have HK9 := Lib.hid (HK2.out.fin HQ8.out rfl (o := j * 5) rfl)
              have HS := Lib.hid (HS.out.far (set5o_upd _ _ (j * 5) (.int .i64 q.v) (.int .i64 q.op) (.int .i64 q.imm) (.int .i64 q.iv) (.slice KA q.kids.length kc)) (fun k e => HK2.out.2.2 k (At.some_.2 e)) (fun k e => HS.out.rd.own_ne (Classical.choose_spec HK2.out.2.1).1 k (At.some_.2 e)) hpw)
              refine hK.out _ _ ?_ (fun hHeld => ?_)
              · exact HS.out.box.cell 0
              clear hK K
              try simp only [put_y]
              try simp only [Act.put]
              try simp only [put_z]
              clear k0 k1 k2 k3 k4 hc5 hf5
              refine wpAnyH_done (by kernel_rfl) ?_ _
              go_wp2_with fail
              go_roundg (n - (j + 1))
              case measure => rw [Hg.out]; omega
              case rel => exact ⟨j + 1, some ⟨g, 0, none⟩, c8, ks ++ [q], y', rfl, by omega, by go_num, HS.out, HK9.out, HG2.out, HL2.out, (kids_step HR.out H0Y.out (termF_err f) HRS.out HZ.out).1, (kids_step HR.out H0Y.out (termF_err f) HRS.out HZ.out).2⟩
          · go_simp
            have HLT0 : Hid (∀ k, At Ak k → k < _) := fun k r => HK.out.1.lt r
            have HN1 := Lib.hid HS.out.le
            have HLT := HLT0
            refine (HT.out HS.out.rd HG.out HYL.out H0Y.out HFU.out).mono ?_
            rintro e w6 ⟨q, KA, kc, y', rfl, hq, hy', hg', hl', ho', hu', hres⟩
            have HSO := HS
            have HS := Lib.hid (HS.out.call hy' ho' hu')
            have HG2 := Lib.hid hg'
            have HL2 : Hid (y'.left = left) := hl'.trans HYL.out
            have HRS := Lib.hid hres
            have HQ := Lib.hid hq
            have HK := Lib.hid (HK.out.step HSO.out.rd hu' ho')
            have HZS := Lib.hid (HZS.out.upd hu' (fun k _ e r => by subst e; exact Nat.lt_irrefl _ (hlo _ r)))
            clear hq hy' hg' hl' ho' hu' hres
            unfold pv
            go_wp2_with fail
            refine hK.out _ _ ?_ (fun hHeld => ?_)
            · exact HS.out.box.cell 0
            clear hK K
            try simp only [put_y]
            try simp only [Act.put]
            try simp only [put_z]
            have d4 := HS.out.pat.cell 4
            refine wpAnyH_takeM (fun w' => w'.cell? ⟨w.heap.size + 2, 4, none⟩ = some (.slice Ak j ck)) (calm_cell _ _) [10, 8, 6, 7, 9] (i := 1) (v := ?_) rfl (by kernel_rfl) (by kernel_rfl) (by kernel_rfl) (by kernel_rfl) (fun _ _ _ h => h) (Or.inl ⟨by rfl, ?_⟩) (d4) (by assumption) ?_
            rotate_left
            · intro w hSw; (try dsimp only at hSw); go_simp; try with_reducible rfl
            try simp only [put_y]
            try simp only [Act.put]
            try simp only [put_z]
            clear d4
            refine wpAnyH_take (i := 4) (v := ?_) rfl (by kernel_rfl) (by kernel_rfl) (by kernel_rfl) (fun _ _ _ h => h) (Or.inl ⟨by rfl, ?_⟩) (by assumption) ?_
            rotate_left
            · intro w hSw; (try dsimp only at hSw); go_simp; try with_reducible rfl
            try simp only [put_y]
            try simp only [Act.put]
            try simp only [put_z]
            refine wpAnyH_ready (rs := [6]) (by kernel_rfl) (by simp) ?_
            refine AllReadyH.cons rfl (fun K hK => ?_) AllReadyH.nil
            obtain ⟨hkn, cs8, hko, hkc⟩ := id HK.out.1
            have hjc : j ≤ ck := hko.le
            refine step_app rfl rfl T_pats rfl hko rfl HZS.out rfl (by simp [Value.oneCell']) (by simp only [maxLen]; omega) (by omega) ?_
            intro A8 c8 w8 ho8 hu8 hat8
            have HK2 := Lib.hid (KO2.of hkn hkc HK.out.2 HS.out.le ho8 hu8 hat8)
            have HSP := HS
            have HS := Lib.hid (HS.out.far hu8 HK.out.2 (HSP.out.rd.own_ne hko) hpw)
            have HQ8 := Lib.hid (PtK.past HQ.out HLT.out HN1.out hu8 hat8)
            clear hkn hko hkc ho8 hu8 hat8
            refine hK.out _ _ ?_ (fun hHeld => ?_)
            · exact HS.out.box.cell 0
            clear hK K
            try simp only [put_y]
            try simp only [Act.put]
            try simp only [put_z]
            obtain ⟨g, rfl, hc5, hf5⟩ := HK2.out.some_
            have tj1 : (j : Int) < (j : Int) + 1 := by omega
            refine wpAnyH_take (i := 7) (v := ?_) rfl (by kernel_rfl) (by kernel_rfl) (by kernel_rfl) (fun _ _ _ h => h) (Or.inl ⟨by rfl, ?_⟩) (by assumption) ?_
            rotate_left
            · intro w hSw; (try dsimp only at hSw); go_simp; try with_reducible rfl
            try simp only [put_y]
            try simp only [Act.put]
            try simp only [put_z]
            refine wpAnyH_take (i := 9) (v := ?_) rfl (by kernel_rfl) (by kernel_rfl) (by kernel_rfl) (fun _ _ _ h => h) (Or.inl ⟨by rfl, ?_⟩) (by assumption) ?_
            rotate_left
            · intro w hSw; (try dsimp only at hSw); go_simp; try with_reducible rfl
            try simp only [put_y]
            try simp only [Act.put]
            try simp only [put_z]
            refine wpAnyH_ready (rs := [8, 10]) (by kernel_rfl) (by simp) ?_
            refine AllReadyH.cons rfl (fun K hK => ?_) (AllReadyH.cons rfl (fun K hK => ?_) AllReadyH.nil)
            · skip
              have k0 := hc5 (j * 5) rfl 0 (by decide)
              have k1 := hc5 (j * 5) rfl 1 (by decide)
              have k2 := hc5 (j * 5) rfl 2 (by decide)
              have k3 := hc5 (j * 5) rfl 3 (by decide)
              have k4 := hc5 (j * 5) rfl 4 (by decide)
              rw [Nat.add_zero] at k0
              unfold zs5 at k0 k1 k2 k3 k4
              go_simp
              rw [set5o_eq]
              have HK9 := Lib.hid (HK2.out.fin HQ8.out rfl (o := j * 5) rfl)
              have HS := Lib.hid (HS.out.far (set5o_upd _ _ (j * 5) (.int .i64 q.v) (.int .i64 q.op) (.int .i64 q.imm) (.int .i64 q.iv) (.slice KA q.kids.length kc)) (fun k e => HK2.out.2.2 k (At.some_.2 e)) (fun k e => HS.out.rd.own_ne (Classical.choose_spec HK2.out.2.1).1 k (At.some_.2 e)) hpw)
              refine hK.out _ _ ?_ (fun hHeld => ?_)
              · exact HS.out.box.cell 0
              clear hK K
              try simp only [put_y]
              try simp only [Act.put]
              try simp only [put_z]
              clear k0 k1 k2 k3 k4 hc5 hf5
              refine wpAnyH_ready (rs := [10]) (by kernel_rfl) (by simp) ?_
              refine AllReadyH.cons rfl (fun K hK => ?_) AllReadyH.nil
              have d4 := HS.out.pat.cell 4
              have f4 := HS.out.pat.frozen 4
              go_simp
              obtain ⟨w9, e9, huu, hsk⟩ := HS.out.kids (.slice (some ⟨g, 0, none⟩) (j + 1) c8)
              rw [e9]
              clear e9
              have HS := Lib.hid hsk
              have HK9 := Lib.hid (HK9.out.near huu (by omega))
              clear hsk huu d4 f4
              refine hK.out _ _ ?_ (fun hHeld => ?_)
              · exact HS.out.box.cell 0
              clear hK K
              try simp only [put_y]
              try simp only [Act.put]
              try simp only [put_z]
              refine wpAnyH_done (by kernel_rfl) ?_ _
              go_wp2_with fail
              go_roundg (n - (j + 1))
              case measure => rw [Hg.out]; omega
              case rel => exact ⟨j + 1, some ⟨g, 0, none⟩, c8, ks ++ [q], y', rfl, by omega, by go_num, HS.out, HK9.out, HG2.out, HL2.out, (kids_step HR.out H0Y.out (termF_err f) HRS.out HZ.out).1, (kids_step HR.out H0Y.out (termF_err f) HRS.out HZ.out).2⟩
            · skip
              have d4 := HS.out.pat.cell 4
              have f4 := HS.out.pat.frozen 4
              go_simp
              obtain ⟨w9, e9, huu, hsk⟩ := HS.out.kids (.slice (some ⟨g, 0, none⟩) (j + 1) c8)
              rw [e9]
              clear e9
              have HS := Lib.hid hsk
              have HK2 := Lib.hid (HK2.out.near huu (by omega))
              have HQ8 := Lib.hid (PtK.upd huu (fun k _ r e => by have := r.1.1; omega) _ _ _ HQ8.out)
              clear hsk huu d4 f4 hc5 hf5
              obtain ⟨g', hg', hc5, hf5⟩ := HK2.out.some_
              injection hg' with hg'; injection hg' with hg'; subst hg'
              refine hK.out _ _ ?_ (fun hHeld => ?_)
              · exact HS.out.box.cell 0
              clear hK K
              try simp only [put_y]
              try simp only [Act.put]
              try simp only [put_z]
              have k0 := hc5 (j * 5) rfl 0 (by decide)
              have k1 := hc5 (j * 5) rfl 1 (by decide)
              have k2 := hc5 (j * 5) rfl 2 (by decide)
              have k3 := hc5 (j * 5) rfl 3 (by decide)
              have k4 := hc5 (j * 5) rfl 4 (by decide)
              rw [Nat.add_zero] at k0
              unfold zs5 at k0 k1 k2 k3 k4
              refine wpAnyH_ready (rs := [8]) (by kernel_rfl) (by simp) ?_
              refine AllReadyH.cons rfl (fun K hK => ?_) AllReadyH.nil
              go_simp
              rw [set5o_eq]
              have HK9 := Lib.hid (HK2.out.fin HQ8.out rfl (o := j * 5) rfl)
              have HS := Lib.hid (HS.out.far (set5o_upd _ _ (j * 5) (.int .i64 q.v) (.int .i64 q.op) (.int .i64 q.imm) (.int .i64 q.iv) (.slice KA q.kids.length kc)) (fun k e => HK2.out.2.2 k (At.some_.2 e)) (fun k e => HS.out.rd.own_ne (Classical.choose_spec HK2.out.2.1).1 k (At.some_.2 e)) hpw)
              refine hK.out _ _ ?_ (fun hHeld => ?_)
              · exact HS.out.box.cell 0
              clear hK K
              try simp only [put_y]
              try simp only [Act.put]
              try simp only [put_z]
              clear k0 k1 k2 k3 k4 hc5 hf5
              refine wpAnyH_done (by kernel_rfl) ?_ _
              go_wp2_with fail
              go_roundg (n - (j + 1))
              case measure => rw [Hg.out]; omega
              case rel => exact ⟨j + 1, some ⟨g, 0, none⟩, c8, ks ++ [q], y', rfl, by omega, by go_num, HS.out, HK9.out, HG2.out, HL2.out, (kids_step HR.out H0Y.out (termF_err f) HRS.out HZ.out).1, (kids_step HR.out H0Y.out (termF_err f) HRS.out HZ.out).2⟩
      | false =>
        have HR2 := Lib.hid (kids_exit HR.out hj HD.out)
        have CE := Lib.hid (rExpect_c HS1.out.rd hyi hLl [41])
        go_wp2_with fail
        refine CE.out.mono ?_
        rintro e w6 ⟨rfl, hy6, hu6⟩
        have HS6 := Lib.hid (HS1.out.call hy6 (fun k hk => .inl ((exp_own _ _).1 hk)) (hu6.mono (fun _ _ e => .inl e)))
        have HK6 := Lib.hid (HK.out.step HS1.out.rd (y' := y.exp L [41]) (hu6.mono (fun _ _ e => .inl e)) (fun k hk => .inl ((exp_own _ _).1 hk)))
        have v0 := HS6.out.pat.cell 0
        have v1 := HS6.out.pat.cell 1
        have v2 := HS6.out.pat.cell 2
        have v3 := HS6.out.pat.cell 3
        have v4 := HS6.out.pat.cell 4
        have hb6 := HS6.out.res
        unfold p0 at hb6
        have z0 := hb6.cell 0
        have z1 := hb6.cell 1
        have z2 := hb6.cell 2
        have z3 := hb6.cell 3
        have z4 := hb6.cell 4
        have zf := hb6.frozen
        have HB6 := Lib.hid hb6
        clear CE hb6 d0 hy6 hu6
        go_wp2_with fail
        rw [set5_eq]
        have us := set5_upd w6 (w.heap.size + 1) (.int .i64 q0.v) (.int .i64 q0.op) (.int .i64 q0.imm) (.int .i64 q0.iv) (.slice Ak j ck)
        have hkl : ks.length = j := HK.out.1.1.symm
        refine bodyPost_ret (results_cell_row rfl _ _ (w.heap.size + 1) 30 _ (0, 0) _ rfl (set5_blk HB6.out _ _ _ _ _) Try.underlying30 rfl (by kernel_rfl)) rfl ?_
        refine ⟨.mk q0.v q0.op q0.imm q0.iv ks, Ak, ck, y.exp L [41], by unfold pv; rw [← hkl]; rfl, ?_, HS6.out.rd.upd us (fun k _ e => ?_), exp_good hL HG1.out, ?_, fun k hk => ?_, ?_, ?_⟩
        · have hne := HS6.out.rd.own_ne (Classical.choose_spec HK6.out.1.2).1
          have hpt : PtK w6 (fun k => w.heap.size + 3 ≤ k ∧ ¬ (y.exp L [41]).own p k) (.mk q0.v q0.op q0.imm q0.iv ks) Ak ck := HK6.out.1.view (fun k hk => ⟨HK6.out.2 k hk, hne k hk⟩) (fun k _ q => q) _ _ _ _
          exact PtK.mono (fun k _ q => ⟨Nat.le_trans (Nat.le_add_right _ _) q.1, q.2⟩) _ _ _ (PtK.upd us (fun k _ q e => by have := q.1; omega) _ _ _ hpt)
        · subst e
          have hn : ¬ (y.exp L [41]).own p (w.heap.size + 1) := fun q => by
            rcases HS6.out.own _ q with r | r
            · have := hown _ r; omega
            · omega
          exact ⟨by omega, fun q => hn (.inr (.inl q)), fun q => hn (.inr (.inr q))⟩
        · rw [exp_left, HL1.out, hl]
        · exact (HS6.out.own k hk).imp_right (fun r => by omega)
        · exact HS6.out.upd.trans us (fun k hk e => by omega)
        · exact app_fin hL h0 HG1.out HR0.out Hn.out.symm HR2.out HZ.out
end Go.Proofs.Ytblkgjdhaibhgaa
