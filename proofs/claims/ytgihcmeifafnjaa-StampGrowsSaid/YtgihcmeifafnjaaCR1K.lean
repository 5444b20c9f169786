/- Canonical lists, in plain words. -/
import Derived.Test.YtgihcmeifafnjaaCR1H
import Derived.Test.YtgihcmeifafnjaaCR1J
import Derived.Test.YtgihcmeifafnjaaCAbsX
set_option linter.unusedVariables false
set_option linter.unusedSimpArgs false
namespace Go.Proofs.R1
open Go Go.Abs

theorem ordI_lt {a b : Int} : ordI a b < 0 ↔ a < b := by unfold ordI; (repeat' split) <;> omega
theorem ordI_gt {a b : Int} : 0 < ordI a b ↔ b < a := by unfold ordI; (repeat' split) <;> omega
theorem ordI_eq {a b : Int} : ordI a b = 0 ↔ a = b := by unfold ordI; (repeat' split) <;> omega
theorem cmpS_lt {s t : St} : cmpS s t < 0 ↔ s.1 < t.1 ∨ s.1 = t.1 ∧ (s.2.1 < t.2.1 ∨ s.2.1 = t.2.1 ∧ s.2.2 < t.2.2) := by
  unfold cmpS
  have a1 := @ordI_lt s.1 t.1; have a2 := @ordI_eq s.1 t.1; have b1 := @ordI_lt s.2.1 t.2.1; have b2 := @ordI_eq s.2.1 t.2.1; have c1 := @ordI_lt s.2.2 t.2.2
  split
  · omega
  · split <;> omega
theorem cmpS_gt {s t : St} : 0 < cmpS s t ↔ cmpS t s < 0 := by
  rw [cmpS_lt]
  unfold cmpS
  have a1 := @ordI_gt s.1 t.1; have a2 := @ordI_eq s.1 t.1; have b1 := @ordI_gt s.2.1 t.2.1; have b2 := @ordI_eq s.2.1 t.2.1; have c1 := @ordI_gt s.2.2 t.2.2
  split
  · omega
  · split <;> omega
theorem cmpS_eq {s t : St} : cmpS s t = 0 ↔ s = t := by
  have h1 := @cmpS_lt s t; have h2 := @cmpS_gt s t; have h3 := @cmpS_lt t s
  obtain ⟨a, b, c⟩ := s; obtain ⟨d, e, f⟩ := t
  simp only [Prod.mk.injEq] at *
  omega
theorem cmpS_trans {s t u : St} (h : cmpS s t < 0) (k : cmpS t u < 0) : cmpS s u < 0 := by
  rw [cmpS_lt] at *; omega
theorem cmpS_irr (s : St) : ¬ cmpS s s < 0 := by rw [cmpS_lt]; omega
theorem cmpS_ntrans {s t u : St} (h : ¬ cmpS s t < 0) (k : ¬ cmpS t u < 0) : ¬ cmpS s u < 0 := by
  rw [cmpS_lt] at *; omega

/-- What Canonical names. -/
def IsCanon (l : List St) (c : List Int) (out : List Nat) : Prop := out.Pairwise (fun i j => cmpS (stAt l i) (stAt l j) < 0) ∧ ∀ i, i ∈ out ↔ i < l.length ∧ countsS l c i = true
theorem counts_apart {l : List St} {c : List Int} {i j : Nat} (hi : i < l.length) (hj : j < l.length) (h1 : countsS l c i = true) (h2 : countsS l c j = true) (h : stAt l i = stAt l j) : i = j := by
  have key : ∀ {i j : Nat}, i < l.length → countsS l c i = true → countsS l c j = true → stAt l i = stAt l j → ¬ i < j := by
    intro i j hi h1 h2 h hlt
    simp only [countsS, Bool.and_eq_true, List.all_eq_true, List.mem_range] at h1 h2
    have := h2.2 i hi
    simp only [badAt, h1.1, Bool.true_and, Bool.not_eq_true', Bool.or_eq_false_iff, Bool.and_eq_false_iff, decide_eq_false_iff_not] at this
    rcases this.2 with h' | h'
    · exact h' hlt
    · exact h' h
  have := key hi h1 h2 h
  have := key hj h2 h1 h.symm
  omega
/-- .. as a list. -/
def canF (l : List St) (c : List Int) : List Nat := ((List.range l.length).filter fun i => countsS l c i).mergeSort fun i j => decide (¬ 0 < cmpS (stAt l i) (stAt l j))
theorem canF_is (l : List St) (c : List Int) : IsCanon l c (canF l c) := by
  have hp := List.mergeSort_perm ((List.range l.length).filter fun i => countsS l c i) fun i j => decide (¬ 0 < cmpS (stAt l i) (stAt l j))
  have hm : ∀ i, i ∈ canF l c ↔ i < l.length ∧ countsS l c i = true := fun i => by
    unfold canF; rw [hp.mem_iff]; simp
  have hnd : (canF l c).Nodup := hp.nodup_iff.2 (List.nodup_range.filter _)
  refine ⟨?_, hm⟩
  have hs := List.pairwise_mergeSort (le := fun i j => decide (¬ 0 < cmpS (stAt l i) (stAt l j))) (fun a b c h1 h2 => by
    simp only [decide_eq_true_eq, cmpS_gt] at *
    exact cmpS_ntrans h2 h1) (fun a b => by
    simp only [Bool.or_eq_true, decide_eq_true_eq, cmpS_gt]
    rw [cmpS_lt, cmpS_lt]; omega) ((List.range l.length).filter fun i => countsS l c i)
  have hs' := (List.Pairwise.and hs hnd)
  refine List.Pairwise.imp_of_mem ?_ hs'
  intro i j hi hj ⟨h1, h2⟩
  simp only [decide_eq_true_eq] at h1
  have h0 : cmpS (stAt l i) (stAt l j) ≠ 0 := fun h => h2 (counts_apart ((hm i).1 hi).1 ((hm j).1 hj).1 ((hm i).1 hi).2 ((hm j).1 hj).2 (cmpS_eq.1 h))
  omega
theorem canon_unique {l : List St} {c : List Int} {a b : List Nat} (ha : IsCanon l c a) (hb : IsCanon l c b) : a = b :=
  asc_unique (lt := fun i j => cmpS (stAt l i) (stAt l j) < 0) (fun a => cmpS_irr _) (fun a b c h k => cmpS_trans h k) a b ha.1 hb.1 fun x => by rw [ha.2, hb.2]
theorem canF_of {l : List St} {c : List Int} {a : List Nat} (ha : IsCanon l c a) : a = canF l c := canon_unique ha (canF_is l c)
theorem canF_len (l : List St) (c : List Int) : (canF l c).length ≤ l.length := by
  unfold canF
  rw [List.length_mergeSort]
  exact Nat.le_trans (List.length_filter_le _ _) (by simp)
/-- A list of numbers, as the program has it. -/
def natI (o : List Nat) : List Int := o.map fun (i : Nat) => (i : Int)
@[go_sem] theorem natI_len (o : List Nat) : (natI o).length = o.length := by simp [natI]

/-- What Canonical hands back. -/
def canR (l : List St) (c : List Int) : List Int × Int :=
  if c.length ≠ l.length then ([], 1) else if 300 < (canF l c).length then ([], 3) else (natI (canF l c), 0)
def canC : Con where
  α := List St × List Int
  kinds := [false, false]
  args := fun a => [.d (.sl 3 (stR a.1)), .d (.sl 1 (intL a.2))]
  pre := fun a => a.1.length ≤ 1000000
  post := fun a r => r = ⟨[.own 1 (intL (canR a.1 a.2).1), .d (i64 (canR a.1 a.2).2)], []⟩
  clean := true
end Go.Proofs.R1
