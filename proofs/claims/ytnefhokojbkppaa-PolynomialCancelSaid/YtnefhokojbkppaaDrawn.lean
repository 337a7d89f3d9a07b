/-
  In a region that draws its order, what runs alike in every world of S may be taken first: a call that leaves the world as it is, too. No condition of its own.
-/
import Derived.WalkKit
import Derived.OrdersHeld
namespace Go.Proofs.Ytnefhokojbkppaa

section
variable {P : Program} {ops : Array Oper} {Q : Exit → Act → World → Prop} {md : Region.Mode} {S : World → Prop}

/-- Operation i leaves v and an unchanged world, from every frame of Y and world of S; Y stays under what the others write. -/
structure Calm (P : Program) (ops : Array Oper) (Q : Exit → Act → World → Prop) (S : World → Prop) (i : Nat) (oi : Oper) (v : Value) (Y : Act → Prop) : Prop where
  at_ : ops[i]? = some oi
  run : ∀ (K : Act → World → Prop) a w, Y a → S w → K (a.put oi.dst v) w → wpOp P ops Q i K a w
  put : ∀ a d u, Y a → (∀ t, d = some t → t ∉ oi.looksAt ops) → Y (a.put d u)
  late : ∀ a d, Y a → Y { a with defers := d :: a.defers }
  dies : ∀ c a w, Q (.panic c) (a.put oi.dst v) w → Q (.panic c) a w

/-- Another operation, run behind it, might as well have been run ahead of it. -/
theorem Calm.swap {i : Nat} {oi : Oper} {v : Value} {Y : Act → Prop} (C : Calm P ops Q S i oi v Y) (hns : ∀ (j : Nat) (o : Oper) cs b, ops[j]? = some o → o.op ≠ .select cs b)
    {j : Nat} {oj : Oper} (hj : ops[j]? = some oj) (hap : oi.apart ops oj = true) {K : Act → World → Prop} {a : Act} {w : World} (hy : Y a) (h : wpOp P ops Q j K (a.put oi.dst v) w) :
    wpOp P ops Q j (fun a' w' => Y a' ∧ K (a'.put oi.dst v) w') a w := by
  obtain ⟨p1, p2, p3⟩ := Oper.apart_spec hap
  have E := execOp_put oj (hns j oj · · hj) a oi.dst v p1
  have st : ∀ b, Y b → ∀ u, Y (b.put oj.dst u) := fun b hb u => C.put b _ u hb p3
  unfold wpOp at h ⊢
  rw [hj] at h ⊢
  dsimp only at h ⊢
  rw [wanted_put oj a oi.dst v p1] at h
  by_cases hw : Region.wanted oj (yielded ops a.tmps) = true
  · rw [if_pos hw] at h ⊢
    rcases h with h | ⟨hk, hl⟩
    · left
      unfold Oper.wp at h ⊢
      rw [E] at h
      revert h
      cases (execOp a.eval oj).run P w with
      | halt x w' => cases x <;> (simp only [Oper.upon]; intro h) <;> first | exact h | exact C.dies _ _ _ h
      | ok n w' =>
        cases n with
        | value u => intro h; exact ⟨st a hy u, by rw [← Act.put_comm a v u p2]; exact h⟩
        | skip => intro h; exact ⟨st a hy _, by rw [← Act.put_comm a v undef p2]; exact h⟩
        | defer d => intro h; exact ⟨st _ (C.late a d hy) _, by rw [← Act.put_comm _ v undef p2, ← Act.put_defers]; exact h⟩
        | row r args => intro h; exact Rows.mono h fun u _ he => ⟨st a hy u, by rw [← Act.put_comm a v u p2]; exact he⟩
        | enter f args =>
          intro h
          refine Calls.mono h fun e _ he => ?_
          match e, he with
          | .returned u, he => exact ⟨st a hy u, by rw [← Act.put_comm a v u p2]; exact he⟩
          | .panicked _, he => exact C.dies _ _ _ he
          | .outgrown, he => exact he
        | _ => first | exact id | (intro h; exact h)
    · exact .inr ⟨by unfold Oper.asks at hk ⊢; rw [E] at hk; exact hk, hl⟩
  · rw [if_neg hw] at h ⊢
    exact ⟨st a hy _, by rw [← Act.put_comm a v undef p2]; exact h⟩

/-- It may be taken first. -/
theorem Calm.first {i : Nat} {oi : Oper} {v : Value} {Y : Act → Prop} (C : Calm P ops Q S i oi v Y) (hns : ∀ (j : Nat) (o : Oper) cs b, ops[j]? = some o → o.op ≠ .select cs b) :
    ∀ (fuel : Nat) (listed : Array Bool) (a : Act) (w : World),
      (∀ j oj, ops[j]? = some oj → j ≠ i → listed.getD j true = false → (∀ e ∈ oj.after, Region.binds md e = true → e.on ≠ i) → oi.apart ops oj = true) →
      i ∈ Region.ready md ops listed → Y a → S w → wpAnyH P md ops Q S fuel (listed.setIfInBounds i true) (a.put oi.dst v) w → wpAnyH P md ops Q S (fuel + 1) listed a w
  | 0, listed, a, w, _, hr, hy, hS, H => by
    refine ⟨fun h => absurd hr (by rw [h]; simp), fun j hj => ?_⟩
    by_cases e : j = i
    · rw [e]; exact C.run _ a w hy hS ⟨hS, H⟩
    · exact absurd (ready_mono hj e) (by rw [H.1]; simp)
  | fuel + 1, listed, a, w, hf, hr, hy, hS, H => by
    refine ⟨fun h => absurd hr (by rw [h]; simp), fun j hj => ?_⟩
    by_cases e : j = i
    · rw [e]; exact C.run _ a w hy hS ⟨hS, H⟩
    obtain ⟨un, oj, hoj, hall⟩ := mem_ready.1 hj
    have hi0 := (mem_ready.1 hr).1
    have waits : ∀ x ∈ oj.after, Region.binds md x = true → x.on ≠ i := fun x hx hb heq => by
      have := hall x hx hb
      rw [heq] at this
      rcases Nat.lt_or_ge i listed.size with q | q
      · simp [q] at this hi0; rw [hi0] at this; cases this
      · simp [Array.getElem?_eq_none q] at this
    refine wpOp_mono (fun b w2 h3 => ?_) (C.swap hns hoj (hf j oj hoj e un waits) hy (H.2 j (ready_mono hj e)))
    refine ⟨h3.2.1, Calm.first C hns fuel (listed.setIfInBounds j true) b w2 (fun k ok hk hki hun hno => ?_) (ready_mono hr (Ne.symm e)) h3.1 h3.2.1 ?_⟩
    · by_cases q : j = k
      · exact hf k ok hk hki (by rw [← q]; exact un) hno
      · exact hf k ok hk hki (by rw [getD_set_ne true q] at hun; exact hun) hno
    · rw [Array.setIfInBounds_comm _ _ e]; exact h3.2.2

/-- In state a, in every world of S, o calls a function that returns v and leaves the world as it is. -/
def PureC (P : Program) (ops : Array Oper) (S : World → Prop) (o : Oper) (v : Value) (a : Act) : Prop :=
  Region.wanted o (yielded ops a.tmps) = true ∧ ∃ f args, (∀ w, (execOp a.eval o).run P w = .ok (.enter f args) w) ∧ ∀ w, S w → Calls P f args w fun e w' => e = .returned v ∧ w' = w
theorem PureC.calm {i : Nat} {oi : Oper} {v : Value} (hi : ops[i]? = some oi) (hns : ∀ (j : Nat) (o : Oper) cs b, ops[j]? = some o → o.op ≠ .select cs b) (hQ : ∀ c a w, Q (.panic c) (a.put oi.dst v) w → Q (.panic c) a w) :
    Calm P ops Q S i oi v (PureC P ops S oi v) := by
  refine ⟨hi, fun K a w hy hS h => ?_, fun a d u hy hd => ?_, fun a d hy => hy, hQ⟩
  · obtain ⟨hw, f, args, hr, hc⟩ := hy
    unfold wpOp
    simp only [hi, hw, if_true, Oper.wp, hr w, Oper.upon]
    refine .inl ((hc w hS).mono fun e w' he => ?_)
    obtain ⟨rfl, rfl⟩ := he
    exact h
  · unfold PureC at *
    rw [execOp_put oi (hns i oi · · hi) a d u hd, wanted_put oi a d u hd]
    exact hy

/-- Take call number i first. -/
theorem wpAnyH_takeC {i : Nat} {oi : Oper} {v : Value} {fuel : Nat} {listed : Array Bool} {a : Act} {w : World} (hi : ops[i]? = some oi)
    (hs : Region.noSelect ops = true) (hf : Region.free md ops listed i = true) (hr : (Region.ready md ops listed).contains i = true)
    (hQ : ∀ c a w, Q (.panic c) (a.put oi.dst v) w → Q (.panic c) a w) (hy : PureC P ops S oi v a) (hS : S w)
    (h : wpAnyH P md ops Q S fuel (listed.setIfInBounds i true) (a.put oi.dst v) w) : wpAnyH P md ops Q S (fuel + 1) listed a w :=
  (PureC.calm hi (Region.noSelect_spec hs) hQ).first (Region.noSelect_spec hs) fuel listed a w (Region.free_spec hi hf) (by simpa using hr) hy hS h

end
end Go.Proofs.Ytnefhokojbkppaa
