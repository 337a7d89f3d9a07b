/-
  One pass over the nodes with a map from keys to nodes: plain Lean.
-/
import Derived.Test.YtlehiklgbladoaaKeyInj
namespace Go.Proofs.Ytlehiklgbladoaa

def NdOk (nd : Nd) : Prop := I64 nd.op ∧ I64 nd.imm ∧ 8 * nd.kids.length + 16 ≤ 140737488355328

def pairsIn (L : List Nd) (ps : List (Int × Int)) (c : Nat → Nat) : Prop := ∀ p ∈ ps, inR L.length p.1 → inR L.length p.2 → c p.1.toNat = c p.2.toNat

structure Pass (L : List Nd) (ps : List (Int × Int)) (c0 : Nat → Nat) (k : Nat) (on : Bool) (c : Nat → Nat) (m : ByteArray → Option Nat) : Prop where
  named : Named L.length c
  snd : Snd L ps c
  prs : pairsIn L ps c
  ent : ∀ s j, m s = some j → j < k ∧ ∃ (hj : j < L.length) (rs : List Nat), s = bstr (keyNs L[j].op L[j].imm rs) ∧ okKids L.length L[j].kids = true ∧ (∀ r ∈ rs, r < L.length) ∧ ∀ d, Resp L ps d → kidCs d L[j].kids = rs.map d
  off : on = false → c = c0 ∧ ∀ i (hi : i < L.length), i < k → okKids L.length L[i].kids = true → ∃ j, m (keyS c L[i]) = some j ∧ c i = c j
  on_ : on = true → roots L.length c < roots L.length c0

section
variable {L : List Nd} {ps : List (Int × Int)} {c0 c : Nat → Nat} {k : Nat} {on : Bool} {m : ByteArray → Option Nat}

theorem Pass.start (h1 : Named L.length c) (h2 : Snd L ps c) (h3 : pairsIn L ps c) : Pass L ps c 0 false c (fun _ => none) :=
  ⟨h1, h2, h3, by simp, fun _ => ⟨rfl, fun i _ h => by omega⟩, by simp⟩

theorem Pass.bad (h : Pass L ps c0 k on c m) (hk : k < L.length) (hb : okKids L.length L[k].kids = false) : Pass L ps c0 (k + 1) on c m := by
  refine ⟨h.named, h.snd, h.prs, fun s j hj => ⟨by have := (h.ent s j hj).1; omega, (h.ent s j hj).2⟩, fun ho => ⟨(h.off ho).1, fun i hi hik hok => ?_⟩, h.on_⟩
  by_cases e : i = k
  · subst e; rw [hb] at hok; cases hok
  · exact (h.off ho).2 i hi (by omega) hok

theorem kidCs_d {d : Nat → Nat} (hn : Named L.length c) (hs : Snd L ps c) (hr : Resp L ps d) {kids : List Int} (hok : okKids L.length kids = true) : kidCs d kids = (kidCs c kids).map d := by
  unfold kidCs
  rw [List.map_map]
  apply List.map_congr_left
  intro x hx
  simp only [okKids, List.all_eq_true, Bool.and_eq_true, decide_eq_true_eq] at hok
  have := hok x hx
  exact hs d hr _ _ (by omega) (hn.lt (by omega)) (hn.idem _ (by omega)).symm

theorem kidCs_lt (hn : Named L.length c) {kids : List Int} (hok : okKids L.length kids = true) : ∀ r ∈ kidCs c kids, r < L.length := by
  intro r hr
  unfold kidCs at hr
  obtain ⟨x, hx, rfl⟩ := List.mem_map.1 hr
  simp only [okKids, List.all_eq_true, Bool.and_eq_true, decide_eq_true_eq] at hok
  have := hok x hx
  exact hn.lt (by omega)

theorem Pass.fresh (h : Pass L ps c0 k on c m) (hk : k < L.length) (hok : okKids L.length L[k].kids = true) (hm : m (keyS c L[k]) = none) :
    Pass L ps c0 (k + 1) on c (fun s => if s = keyS c L[k] then some k else m s) := by
  refine ⟨h.named, h.snd, h.prs, fun s j hj => ?_, fun ho => ⟨(h.off ho).1, fun i hi hik hoki => ?_⟩, h.on_⟩
  · split at hj
    · rename_i e
      injection hj with hj
      subst hj
      exact ⟨by omega, hk, kidCs c L[k].kids, e, hok, kidCs_lt h.named hok, fun d hr => kidCs_d h.named h.snd hr hok⟩
    · exact ⟨by have := (h.ent s j hj).1; omega, (h.ent s j hj).2⟩
  · by_cases e : i = k
    · subst e; exact ⟨i, by simp, rfl⟩
    · obtain ⟨j, h1, h2⟩ := (h.off ho).2 i hi (by omega) hoki
      refine ⟨j, ?_, h2⟩
      rw [if_neg]
      · exact h1
      · intro e2; rw [e2, hm] at h1; cases h1

theorem Pass.same {j : Nat} (h : Pass L ps c0 k on c m) (hk : k < L.length) (hm : m (keyS c L[k]) = some j) (hc : c k = c j) :
    Pass L ps c0 (k + 1) on c m := by
  refine ⟨h.named, h.snd, h.prs, fun s j hj => ⟨by have := (h.ent s j hj).1; omega, (h.ent s j hj).2⟩, fun ho => ⟨(h.off ho).1, fun i hi hik hoki => ?_⟩, h.on_⟩
  by_cases e : i = k
  · subst e; exact ⟨j, hm, hc⟩
  · exact (h.off ho).2 i hi (by omega) hoki

theorem Pass.join {j : Nat} (hL : ∀ nd ∈ L, NdOk nd) (hlen : L.length ≤ 100000) (h : Pass L ps c0 k on c m) (hk : k < L.length) (hok : okKids L.length L[k].kids = true) (hm : m (keyS c L[k]) = some j) (hc : c k ≠ c j) :
    Pass L ps c0 (k + 1) true (joinc c k j) m := by
  obtain ⟨hjk, hj, rs, hs, hokj, hrs, hd⟩ := h.ent _ _ hm
  have ok1 := hL _ (List.getElem_mem hk)
  have ok2 := hL _ (List.getElem_mem hj)
  have small : ∀ x : Nat, x < L.length → I64 (x : Int) := fun x hx => by unfold I64; omega
  obtain ⟨e1, e2, e3⟩ := keyS_eq ok1.1 ok1.2.1 ok2.1 ok2.2.1 (fun x hx => small x (kidCs_lt h.named hok x hx)) (fun x hx => small x (hrs x hx)) hs
  have hdd : ∀ d, Resp L ps d → d k = d j := fun d hr => hr.cong k j hk hj ⟨e1, e2, hok, hokj, by rw [hd d hr, kidCs_d h.named h.snd hr hok, e3]⟩
  have hn := h.named.join hk hj
  have hroots := roots_join h.named hk hj hc
  refine ⟨hn, h.snd.join hk hj hdd, fun p hp i1 i2 => joinc_keeps (h.prs p hp i1 i2), fun s j hj => ⟨by have := (h.ent s j hj).1; omega, (h.ent s j hj).2⟩, by simp, fun _ => ?_⟩
  cases ho : on with
  | false => rw [(h.off ho).1] at hroots; rw [(h.off ho).1]; exact hroots
  | true => have := h.on_ ho; omega

/-- A pass that joined nothing shows that the classes are closed. -/
theorem Pass.closed (h : Pass L ps c0 L.length false c m) : IsCl L ps c := by
  refine ⟨h.named, ⟨h.prs, fun i j hi hj hcg => ?_⟩, h.snd⟩
  obtain ⟨h1, h2, h3, h4, h5⟩ := hcg
  obtain ⟨a, ha, ea⟩ := (h.off rfl).2 i hi hi h3
  obtain ⟨b, hb, eb⟩ := (h.off rfl).2 j hj hj h4
  have : keyS c L[i] = keyS c L[j] := by unfold keyS; rw [h1, h2, h5]
  rw [this, hb] at ha
  injection ha with ha
  rw [ea, eb, ha]
end
end Go.Proofs.Ytlehiklgbladoaa
