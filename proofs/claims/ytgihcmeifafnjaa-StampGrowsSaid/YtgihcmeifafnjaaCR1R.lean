/- What the canonical list names depends on the set of events. -/
import Derived.Test.YtgihcmeifafnjaaCR1Q
set_option linter.unusedVariables false
set_option linter.unusedSimpArgs false
namespace Go.Proofs.R1
open Go Go.Abs

@[go_sem] theorem stD_nf (np : Nat) (M : Mem) (s : St) : (stD s).all (nf0 np M) = true := rfl
@[go_sem] theorem stD_ids (n : Nat) (M : Mem) (s : St) : (stD s).flatMap (ids M n) = [] := by cases n <;> rfl
theorem least {P : Nat → Prop} (h : ∃ i, P i) : ∃ i, P i ∧ ∀ j, j < i → ¬ P j := by
  obtain ⟨i, hi⟩ := h
  induction i using Nat.strongRecOn with
  | _ i ih =>
    by_cases hj : ∃ j, j < i ∧ P j
    · obtain ⟨j, h1, h2⟩ := hj; exact ih j h1 h2
    · exact ⟨i, hi, fun j h1 h2 => hj ⟨j, h1, h2⟩⟩

abbrev Ev := St × Int
def ev (l : List St) (c : List Int) (i : Nat) : Ev := (stAt l i, inAt c i)
def IsEv (l : List St) (c : List Int) (p : Ev) : Prop := ∃ i, i < l.length ∧ ev l c i = p
/-- An event that counts, by the set of all. -/
def CE (l : List St) (c : List Int) (p : Ev) : Prop := IsEv l c p ∧ valS p.1 = true ∧ ∀ q, IsEv l c q → valS q.1 = true → dispS p.1 q.1 p.2 q.2 = false
theorem counts_ce {l : List St} {c : List Int} {i : Nat} (hi : i < l.length) (h : countsS l c i = true) : CE l c (ev l c i) := by
  simp only [countsS, Bool.and_eq_true, List.all_eq_true, List.mem_range, Bool.not_eq_true'] at h
  refine ⟨⟨i, hi, rfl⟩, h.1, ?_⟩
  rintro q ⟨k, hk, rfl⟩ hv
  have := h.2 k hk
  simp only [badAt, show valS (stAt l k) = true from hv, Bool.true_and, Bool.or_eq_false_iff] at this
  exact this.1
theorem ce_counts {l : List St} {c : List Int} {p : Ev} (h : CE l c p) : ∃ i, i < l.length ∧ countsS l c i = true ∧ ev l c i = p := by
  obtain ⟨h1, h2, h3⟩ := h
  obtain ⟨i, ⟨hi, he⟩, hl⟩ := least h1
  refine ⟨i, hi, ?_, he⟩
  subst he
  simp only [countsS, Bool.and_eq_true, List.all_eq_true, List.mem_range, Bool.not_eq_true']
  refine ⟨h2, fun k hk => ?_⟩
  simp only [badAt, Bool.and_eq_false_iff, Bool.or_eq_false_iff, decide_eq_false_iff_not]
  cases hv : valS (stAt l k) with
  | false => exact .inl rfl
  | true =>
    have hd := h3 (ev l c k) ⟨k, hk, rfl⟩ hv
    refine .inr ⟨hd, ?_⟩
    by_cases hlt : k < i
    · refine .inr fun hs => hl k hlt ⟨hk, ?_⟩
      have := dispS_false hd (by show idS (stAt l k) = idS (stAt l i); rw [hs])
      exact Prod.ext this.1 this.2
    · exact .inl hlt
abbrev EvLt (p q : Ev) : Prop := cmpS p.1 q.1 < 0
theorem can_ev (l : List St) (c : List Int) : ((canF l c).map (ev l c)).Pairwise EvLt ∧ ∀ p, p ∈ (canF l c).map (ev l c) ↔ CE l c p := by
  obtain ⟨h1, h2⟩ := canF_is l c
  refine ⟨by rw [List.pairwise_map]; exact h1, fun p => ?_⟩
  rw [List.mem_map]
  constructor
  · rintro ⟨i, hi, rfl⟩
    exact counts_ce ((h2 i).1 hi).1 ((h2 i).1 hi).2
  · intro h
    obtain ⟨i, a, b, d⟩ := ce_counts h
    exact ⟨i, (h2 i).2 ⟨a, b⟩, d⟩
theorem can_same {l m : List St} {c d : List Int} (h : ∀ p, IsEv l c p ↔ IsEv m d p) : (canF l c).map (ev l c) = (canF m d).map (ev m d) := by
  refine asc_unique (lt := EvLt) (fun a => cmpS_irr _) (fun a b c h k => cmpS_trans h k) _ _ (can_ev l c).1 (can_ev m d).1 fun p => ?_
  rw [(can_ev l c).2, (can_ev m d).2]
  simp only [CE, h]
/-- Canonical of what counts names all of it, in order. -/
theorem can_twice (l : List St) (c : List Int) : canF ((canF l c).map (stAt l)) ((canF l c).map (inAt c)) = List.range (canF l c).length := by
  obtain ⟨h1, h2⟩ := canF_is l c
  have hst : ∀ i, i < (canF l c).length → ∃ x, (canF l c)[i]? = some x ∧ stAt ((canF l c).map (stAt l)) i = stAt l x ∧ inAt ((canF l c).map (inAt c)) i = inAt c x := by
    intro i hi
    refine ⟨_, List.getElem?_eq_getElem hi, ?_, ?_⟩ <;> simp [stAt, inAt, hi]
  have hlt : ∀ i j, i < j → j < (canF l c).length → cmpS (stAt ((canF l c).map (stAt l)) i) (stAt ((canF l c).map (stAt l)) j) < 0 := by
    intro i j hij hj
    obtain ⟨x, hx, ex, _⟩ := hst i (by omega)
    obtain ⟨y, hy, ey, _⟩ := hst j hj
    rw [ex, ey]
    obtain ⟨a, rfl⟩ := List.getElem?_eq_some_iff.1 hx
    obtain ⟨b, rfl⟩ := List.getElem?_eq_some_iff.1 hy
    exact List.pairwise_iff_getElem.1 h1 i j a b hij
  refine (canF_of ⟨?_, fun i => ?_⟩).symm
  · rw [List.pairwise_iff_getElem]
    intro i j hi hj hij
    simp only [List.getElem_range]
    simp only [List.length_range] at hj
    exact hlt i j hij hj
  · rw [List.mem_range]
    simp only [List.length_map]
    refine ⟨fun hi => ⟨hi, ?_⟩, fun h => h.1⟩
    obtain ⟨x, hx, ex, ecx⟩ := hst i hi
    have hxm := (h2 x).1 (List.mem_of_getElem? hx)
    have hce := counts_ce hxm.1 hxm.2
    simp only [countsS, Bool.and_eq_true, List.all_eq_true, List.mem_range, Bool.not_eq_true', List.length_map]
    refine ⟨by rw [ex]; exact hce.2.1, fun k hk => ?_⟩
    obtain ⟨y, hy, ey, ecy⟩ := hst k hk
    have hym := (h2 y).1 (List.mem_of_getElem? hy)
    have hd := hce.2.2 (ev l c y) ⟨y, hym.1, rfl⟩ (counts_ce hym.1 hym.2).2.1
    simp only [badAt, ex, ey, ecx, ecy, Bool.and_eq_false_iff, Bool.or_eq_false_iff, decide_eq_false_iff_not]
    refine .inr ⟨hd, ?_⟩
    by_cases hki : k < i
    · have := hlt k i hki hi
      rw [ex, ey] at this
      exact .inr fun he => by rw [he] at this; exact cmpS_irr _ this
    · exact .inl hki
end Go.Proofs.R1
