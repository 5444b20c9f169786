/- ref.Disputed; the laws of disputes and of growth. -/
import Derived.Test.YtgihcmeifafnjaaCR1P
import Derived.Test.YtgihcmeifafnjaaCR1R
set_option linter.unusedVariables false
set_option linter.unusedSimpArgs false
set_option maxRecDepth 8000
set_option maxHeartbeats 8000000
namespace Go.Proofs.R1
open Go Go.Abs

/-- Among the first k events one disputes the event i. -/
def fnd (l : List St) (c : List Int) (i k : Nat) : Bool := (List.range k).any fun j => valS (stAt l i) && (valS (stAt l j) && dispS (stAt l i) (stAt l j) (inAt c i) (inAt c j))
theorem fnd_succ (l : List St) (c : List Int) (i k : Nat) : fnd l c i (k + 1) = (fnd l c i k || (valS (stAt l i) && (valS (stAt l k) && dispS (stAt l i) (stAt l k) (inAt c i) (inAt c k)))) := by
  simp [fnd, List.range_succ]
theorem fnd_iff {l : List St} {c : List Int} {i : Nat} : fnd l c i l.length = true ↔ ∃ k, k < l.length ∧ valS (stAt l i) = true ∧ valS (stAt l k) = true ∧ dispS (stAt l i) (stAt l k) (inAt c i) (inAt c k) = true := by
  simp [fnd]
theorem IsDis.skip {l c n} {o : List Ident} (h : IsDis l c n o) (hf : fnd l c n l.length = false ∨ idS (stAt l n) ∈ o) : IsDis l c (n + 1) o := by
  refine ⟨h.1, fun id => (h.2 id).trans ⟨fun ⟨i, k, a, b⟩ => ⟨i, k, by omega, b⟩, fun ⟨i, k, a, b, d, e, f, g⟩ => ?_⟩⟩
  rcases Nat.lt_or_ge i n with h' | h'
  · exact ⟨i, k, h', b, d, e, f, g⟩
  · have : i = n := by omega
    subst this
    rcases hf with hf | hf
    · rw [fnd_iff.2 ⟨k, b, d, e, g⟩] at hf; cases hf
    · rw [f] at hf; exact (h.2 id).1 hf
theorem IsDis.ins {l c n} {o : List Ident} {k : Nat} (h : IsDis l c n o) (hf : fnd l c n l.length = true) (hk : k ≤ o.length) (hlo : ∀ j x, j < k → o[j]? = some x → befS x (idS (stAt l n)) = true) (hhi : ∀ x, o[k]? = some x → befS x (idS (stAt l n)) = false ∧ x ≠ idS (stAt l n)) :
    IsDis l c (n + 1) (o.take k ++ [idS (stAt l n)] ++ o.drop k) := by
  obtain ⟨hp, hm⟩ := h
  have hpa : (o.take k ++ o.drop k).Pairwise IdLt := by rw [List.take_append_drop]; exact hp
  rw [List.pairwise_append] at hpa
  have lo : ∀ x, x ∈ o.take k → IdLt x (idS (stAt l n)) := by
    intro x hx
    obtain ⟨j, hj, rfl⟩ := List.mem_iff_getElem.1 hx
    rw [List.getElem_take]
    simp only [List.length_take] at hj
    exact hlo j _ (by omega) (List.getElem?_eq_getElem (by omega))
  have hi : ∀ x, x ∈ o.drop k → IdLt (idS (stAt l n)) x := by
    intro x hx
    obtain ⟨j, hj, rfl⟩ := List.mem_iff_getElem.1 hx
    rw [List.getElem_drop]
    simp only [List.length_drop] at hj
    have h0 := hhi _ (List.getElem?_eq_getElem (show k < o.length by omega))
    have h1 : IdLt (idS (stAt l n)) (o[k]'(by omega)) := by
      rcases Classical.em (IdLt (idS (stAt l n)) (o[k]'(by omega))) with h | h
      · exact h
      · exact absurd (id_tri (fun hx => by rw [IdLt, h0.1] at hx; cases hx) h) h0.2
    by_cases e : j = 0
    · subst e; exact h1
    · exact id_trans h1 (List.pairwise_iff_getElem.1 hp k (k + j) (by omega) (by omega) (by omega))
  refine ⟨?_, fun id => ?_⟩
  · rw [List.pairwise_append, List.pairwise_append]
    refine ⟨⟨hpa.1, by simp, fun a ha b hb => ?_⟩, hpa.2.1, fun a ha b hb => ?_⟩
    · simp at hb; subst hb; exact lo a ha
    · rcases List.mem_append.1 ha with ha | ha
      · exact hpa.2.2 a ha b hb
      · simp at ha; subst ha; exact hi b hb
  · have e : id ∈ o ↔ id ∈ o.take k ∨ id ∈ o.drop k := by rw [← List.mem_append, List.take_append_drop]
    have := hm id
    rw [e] at this
    simp only [List.mem_append, List.mem_singleton]
    constructor
    · have up : DisAt l c n id → DisAt l c (n + 1) id := fun ⟨i, k, a, b⟩ => ⟨i, k, by omega, b⟩
      rintro ((h | h) | h)
      · exact up (this.1 (.inl h))
      · subst h
        obtain ⟨k, a, b, d, e⟩ := fnd_iff.1 hf
        exact ⟨n, k, by omega, a, b, d, rfl, e⟩
      · exact up (this.1 (.inr h))
    · rintro ⟨i, k, a, b, d, e, f, g⟩
      rcases Nat.lt_or_ge i n with h' | h'
      · exact (this.2 ⟨i, k, h', b, d, e, f, g⟩).imp .inl _root_.id
      · have : i = n := by omega
        subst this; exact .inl (.inr f.symm)
theorem before_call {K : Kt} (hk : K 45 = some beforeC) {np fid : Nat} {M : Mem} {nx : D → Mem → Prop} (s t : Ident) {d e : D} (hd : d = .agg (idD s)) (he : e = .agg (idD t)) (hf : M fid = none) (hn : nx (bl (befS s t)) M) : semCall K np 45 [d, e] M fid nx := by
  subst hd; subst he
  exact call_fn hk rfl rfl (fun _ _ h => h) (s, t) rfl trivial hf hn

theorem disR_ok : CallOk Try.prog 31 disC := by
  refine ok_of_body_own 121 2 Try.func31 rfl (by decide) Try.ntmps31 (by intro a h; exact ⟨rfl, rfl⟩) (by decide) (by rintro _ a r _ ⟨rfl, _⟩; simp only [List.all_cons, List.all_nil, plain_idR]; rfl) ?_
  rintro ⟨l, c⟩ h1
  simp only [disC] at h1 ⊢
  simp only [initE, initMm, List.length_cons, List.length_nil, Nat.reduceAdd]
  have hK : KOk Try.prog (kOf [(13, validC), (44, disputesC), (45, beforeC)]) := kOk_cons rvalid_ok (kOk_cons disputes_ok (kOk_cons before_ok kOk_nil))
  have hD : KDet (kOf [(13, validC), (44, disputesC), (45, beforeC)]) := kDet_cons (fun _ _ => ⟨_, rfl, by simp, fun _ h => h⟩) (kDet_cons (fun _ _ => ⟨_, rfl, by simp, fun _ h => h⟩) (kDet_cons (fun _ _ => ⟨_, rfl, by simp, fun _ h => h⟩) kDet_nil))
  have s1 : validC.srt = none := rfl
  have c1 : validC.clean = true := rfl
  have s2 : disputesC.srt = none := rfl
  have c2 : disputesC.clean = true := rfl
  have s3 : beforeC.srt = none := rfl
  have c3 : beforeC.clean = true := rfl
  by_cases hl : c.length = l.length
  case neg =>
    have hc : ((c.length : Int) != (l.length : Int)) = true := by simp; omega
    repeat' (first
    | (with_reducible refine aw_seq ?_)
    | (with_reducible refine kont_in ?_; simp only [go_sem, reduceIte, Nat.reduceLT, Nat.reduceEqDiff, Nat.reduceAdd, Nat.reduceMul, Nat.reduceSub, Nat.reduceLeDiff, reduceCtorEq, hc])
    | (with_reducible refine dKont_in ?_; simp only [go_sem, reduceIte, Nat.reduceLT, Nat.reduceEqDiff, Nat.reduceAdd, Nat.reduceMul, Nat.reduceSub, Nat.reduceLeDiff, reduceCtorEq, hc])
    | (with_reducible refine aw_drw (by kernel_rfl) hK kDet_nil ?_; simp only [go_sem, reduceIte, Nat.reduceLT, Nat.reduceEqDiff, Nat.reduceAdd, Nat.reduceMul, Nat.reduceSub, Nat.reduceLeDiff, reduceCtorEq, hc])
    | (with_reducible refine aw_reg hK ?_; simp only [go_sem, reduceIte, Nat.reduceLT, Nat.reduceEqDiff, Nat.reduceAdd, Nat.reduceMul, Nat.reduceSub, Nat.reduceLeDiff, reduceCtorEq, hc])
    | (with_reducible refine aw_if ?_; simp only [go_sem, reduceIte, Nat.reduceLT, Nat.reduceEqDiff, Nat.reduceAdd, Nat.reduceMul, Nat.reduceSub, Nat.reduceLeDiff, reduceCtorEq, hc])
    | (with_reducible refine aw_block ?_)
    | (with_reducible refine aw_ret ?_; (try simp only [thenQ, blockQ]); refine aw_ret' ?_; simp only [go_sem, reduceIte, Nat.reduceLT, Nat.reduceEqDiff, Nat.reduceAdd, Nat.reduceMul, Nat.reduceSub, Nat.reduceLeDiff, reduceCtorEq, hc])
    | (with_reducible refine aw_exit ?_; simp only [thenQ, blockQ, reduceIte, Nat.reduceEqDiff])
    | (with_reducible refine aw_skip ?_; simp only [thenQ, blockQ])
    | (with_reducible refine gate_intro (fun h => ?_) (fun h => ?_) <;> simp only [h, go_sem, reduceIte, Nat.reduceLT, Nat.reduceEqDiff, Nat.reduceAdd, Nat.reduceMul, Nat.reduceSub, Nat.reduceLeDiff, reduceCtorEq, hc] <;> (try simp only [decide_eq_true_eq, decide_eq_false_iff_not, Bool.not_true] at h))
    | (with_reducible refine chk_in (by kernel_rfl) ?_)
    | (with_reducible refine And.intro (And.intro (by omega) (by omega)) ?_)
    | (with_reducible refine And.intro (by omega) ?_)
    | (rw [get_in]; rotate_left; omega; simp only [go_sem, reduceIte, Nat.reduceLT, Nat.reduceEqDiff, Nat.reduceAdd, Nat.reduceMul, Nat.reduceSub, Nat.reduceLeDiff, reduceCtorEq, hc])
    | fail)
    refine ⟨_, ⟨rfl, fun h => absurd h hl⟩, ?_, rfl⟩
    simp only [disR, ne_eq, hl, not_false_eq_true, if_true]
    exact .z _ _ _ (.refl _)
  have hc : ((c.length : Int) != (l.length : Int)) = false := by simp; omega
  repeat' (first
    | (with_reducible refine aw_seq ?_)
    | (with_reducible refine kont_in ?_; simp only [go_sem, reduceIte, Nat.reduceLT, Nat.reduceEqDiff, Nat.reduceAdd, Nat.reduceMul, Nat.reduceSub, Nat.reduceLeDiff, reduceCtorEq, hc])
    | (with_reducible refine dKont_in ?_; simp only [go_sem, reduceIte, Nat.reduceLT, Nat.reduceEqDiff, Nat.reduceAdd, Nat.reduceMul, Nat.reduceSub, Nat.reduceLeDiff, reduceCtorEq, hc])
    | (with_reducible refine aw_drw (by kernel_rfl) hK kDet_nil ?_; simp only [go_sem, reduceIte, Nat.reduceLT, Nat.reduceEqDiff, Nat.reduceAdd, Nat.reduceMul, Nat.reduceSub, Nat.reduceLeDiff, reduceCtorEq, hc])
    | (with_reducible refine aw_reg hK ?_; simp only [go_sem, reduceIte, Nat.reduceLT, Nat.reduceEqDiff, Nat.reduceAdd, Nat.reduceMul, Nat.reduceSub, Nat.reduceLeDiff, reduceCtorEq, hc])
    | (with_reducible refine aw_if ?_; simp only [go_sem, reduceIte, Nat.reduceLT, Nat.reduceEqDiff, Nat.reduceAdd, Nat.reduceMul, Nat.reduceSub, Nat.reduceLeDiff, reduceCtorEq, hc])
    | (with_reducible refine aw_block ?_)
    | (with_reducible refine aw_ret ?_; (try simp only [thenQ, blockQ]); refine aw_ret' ?_; simp only [go_sem, reduceIte, Nat.reduceLT, Nat.reduceEqDiff, Nat.reduceAdd, Nat.reduceMul, Nat.reduceSub, Nat.reduceLeDiff, reduceCtorEq, hc])
    | (with_reducible refine aw_exit ?_; simp only [thenQ, blockQ, reduceIte, Nat.reduceEqDiff])
    | (with_reducible refine aw_skip ?_; simp only [thenQ, blockQ])
    | (with_reducible refine gate_intro (fun h => ?_) (fun h => ?_) <;> simp only [h, go_sem, reduceIte, Nat.reduceLT, Nat.reduceEqDiff, Nat.reduceAdd, Nat.reduceMul, Nat.reduceSub, Nat.reduceLeDiff, reduceCtorEq, hc] <;> (try simp only [decide_eq_true_eq, decide_eq_false_iff_not, Bool.not_true] at h))
    | (with_reducible refine chk_in (by kernel_rfl) ?_)
    | (with_reducible refine And.intro (And.intro (by omega) (by omega)) ?_)
    | (with_reducible refine And.intro (by omega) ?_)
    | (rw [get_in]; rotate_left; omega; simp only [go_sem, reduceIte, Nat.reduceLT, Nat.reduceEqDiff, Nat.reduceAdd, Nat.reduceMul, Nat.reduceSub, Nat.reduceLeDiff, reduceCtorEq, hc])
    | fail)
  refine aw_nil 6 100 2 rfl rfl ?_
  refine aw_rounds (α := Nat × List Ident) (fun x => ⟨envOf [(0, .sl 3 (stR l)), (1, .sl 1 (intL c)), (4, .nils), (5, i64 0), (6, .row 100), (7, i64 x.1)], memOf [(100, .row 2 (idR x.2) true)], 200⟩)
    (fun x => x.1 ≤ l.length ∧ IsDis l c x.1 x.2 ∧ x.2.length ≤ x.1) (fun x => l.length - x.1) (0, []) ⟨Nat.zero_le _, ⟨by simp, fun id => by simp [DisAt]⟩, by simp⟩ (weak_in [(100, 100)] (by repeat' (first | trivial | constructor | rfl)) (by repeat' (first | trivial | constructor | rfl)) (by rfl) (by rfl) (by rfl)) ?_
  rintro ⟨i, o⟩ ⟨hi, hI, hol⟩
  simp only at hi hI hol ⊢
  by_cases hlt : i < l.length
  case neg =>
    have hcd : decide ((i : Int) < (l.length : Int)) = false := by simp <;> omega
    have e : i = l.length := by omega
    subst e
    have := disF_of hI
    subst this
    repeat' (first
    | (with_reducible refine aw_seq ?_)
    | (with_reducible refine kont_in ?_; simp only [go_sem, reduceIte, Nat.reduceLT, Nat.reduceEqDiff, Nat.reduceAdd, Nat.reduceMul, Nat.reduceSub, Nat.reduceLeDiff, reduceCtorEq, hcd])
    | (with_reducible refine dKont_in ?_; simp only [go_sem, reduceIte, Nat.reduceLT, Nat.reduceEqDiff, Nat.reduceAdd, Nat.reduceMul, Nat.reduceSub, Nat.reduceLeDiff, reduceCtorEq, hcd])
    | (with_reducible refine aw_drw (by kernel_rfl) hK hD ?_; simp only [go_sem, reduceIte, Nat.reduceLT, Nat.reduceEqDiff, Nat.reduceAdd, Nat.reduceMul, Nat.reduceSub, Nat.reduceLeDiff, reduceCtorEq, hcd])
    | (with_reducible refine aw_reg hK ?_; simp only [go_sem, reduceIte, Nat.reduceLT, Nat.reduceEqDiff, Nat.reduceAdd, Nat.reduceMul, Nat.reduceSub, Nat.reduceLeDiff, reduceCtorEq, hcd])
    | (with_reducible refine aw_if ?_; simp only [go_sem, reduceIte, Nat.reduceLT, Nat.reduceEqDiff, Nat.reduceAdd, Nat.reduceMul, Nat.reduceSub, Nat.reduceLeDiff, reduceCtorEq, hcd])
    | (with_reducible refine aw_block ?_)
    | (with_reducible refine aw_ret ?_; (try simp only [thenQ, blockQ]); refine aw_ret' ?_; simp only [go_sem, reduceIte, Nat.reduceLT, Nat.reduceEqDiff, Nat.reduceAdd, Nat.reduceMul, Nat.reduceSub, Nat.reduceLeDiff, reduceCtorEq, hcd])
    | (with_reducible refine aw_exit ?_; simp only [thenQ, blockQ, reduceIte, Nat.reduceEqDiff])
    | (with_reducible refine aw_skip ?_; simp only [thenQ, blockQ])
    | (with_reducible refine gate_intro (fun h => ?_) (fun h => ?_) <;> simp only [h, go_sem, reduceIte, Nat.reduceLT, Nat.reduceEqDiff, Nat.reduceAdd, Nat.reduceMul, Nat.reduceSub, Nat.reduceLeDiff, reduceCtorEq, hcd] <;> (try simp only [decide_eq_true_eq, decide_eq_false_iff_not, Bool.not_true] at h))
    | (with_reducible refine chk_in (by kernel_rfl) ?_)
    | (with_reducible refine And.intro (And.intro (by omega) (by omega)) ?_)
    | (with_reducible refine And.intro (by omega) ?_)
    | (rw [get_in]; rotate_left; omega; simp only [go_sem, reduceIte, Nat.reduceLT, Nat.reduceEqDiff, Nat.reduceAdd, Nat.reduceMul, Nat.reduceSub, Nat.reduceLeDiff, reduceCtorEq, hcd])
    | fail)
    have e : disR l c = (disF l c, 0) := by simp only [disR, ne_eq, hl, not_true_eq_false, if_false]
    refine ⟨_, ⟨rfl, fun _ => by rw [e]; exact hI⟩, ?_, rfl⟩
    rw [e]
    exact .refl _
  have hcd : decide ((i : Int) < (l.length : Int)) = true := by simp <;> omega
  have hw := wrS (i := i) (by omega)
  obtain ⟨⟨a1, a2, a3⟩, hx⟩ : ∃ s, l[i]? = some s := ⟨_, List.getElem?_eq_getElem hlt⟩
  have hs : stAt l i = (a1, a2, a3) := by simp [stAt, hx]
  have hids : idS (stAt l i) = (a2, a3) := by rw [hs]; rfl
  obtain ⟨ci, hci⟩ : ∃ x, c[i]? = some x := ⟨_, List.getElem?_eq_getElem (by omega)⟩
  have hsc : inAt c i = ci := by simp [inAt, hci]
  repeat' (first
    | (with_reducible refine aw_seq ?_)
    | (with_reducible refine kont_in ?_; simp only [go_sem, reduceIte, Nat.reduceLT, Nat.reduceEqDiff, Nat.reduceAdd, Nat.reduceMul, Nat.reduceSub, Nat.reduceLeDiff, reduceCtorEq, hcd, hx, stD, s1, c1, s2, c2, s3, c3])
    | (with_reducible refine dKont_in ?_; simp only [go_sem, reduceIte, Nat.reduceLT, Nat.reduceEqDiff, Nat.reduceAdd, Nat.reduceMul, Nat.reduceSub, Nat.reduceLeDiff, reduceCtorEq, hcd, hx, stD, s1, c1, s2, c2, s3, c3])
    | (with_reducible refine aw_drw (by kernel_rfl) hK hD ?_; simp only [go_sem, reduceIte, Nat.reduceLT, Nat.reduceEqDiff, Nat.reduceAdd, Nat.reduceMul, Nat.reduceSub, Nat.reduceLeDiff, reduceCtorEq, hcd, hx, stD, s1, c1, s2, c2, s3, c3])
    | (with_reducible refine aw_reg hK ?_; simp only [go_sem, reduceIte, Nat.reduceLT, Nat.reduceEqDiff, Nat.reduceAdd, Nat.reduceMul, Nat.reduceSub, Nat.reduceLeDiff, reduceCtorEq, hcd, hx, stD, s1, c1, s2, c2, s3, c3])
    | (with_reducible refine aw_if ?_; simp only [go_sem, reduceIte, Nat.reduceLT, Nat.reduceEqDiff, Nat.reduceAdd, Nat.reduceMul, Nat.reduceSub, Nat.reduceLeDiff, reduceCtorEq, hcd, hx, stD, s1, c1, s2, c2, s3, c3])
    | (with_reducible refine aw_block ?_)
    | (with_reducible refine aw_ret ?_; (try simp only [thenQ, blockQ]); refine aw_ret' ?_; simp only [go_sem, reduceIte, Nat.reduceLT, Nat.reduceEqDiff, Nat.reduceAdd, Nat.reduceMul, Nat.reduceSub, Nat.reduceLeDiff, reduceCtorEq, hcd, hx, stD, s1, c1, s2, c2, s3, c3])
    | (with_reducible refine aw_exit ?_; simp only [thenQ, blockQ, reduceIte, Nat.reduceEqDiff])
    | (with_reducible refine aw_skip ?_; simp only [thenQ, blockQ])
    | (with_reducible refine gate_intro (fun h => ?_) (fun h => ?_) <;> simp only [h, go_sem, reduceIte, Nat.reduceLT, Nat.reduceEqDiff, Nat.reduceAdd, Nat.reduceMul, Nat.reduceSub, Nat.reduceLeDiff, reduceCtorEq, hcd, hx, stD, s1, c1, s2, c2, s3, c3] <;> (try simp only [decide_eq_true_eq, decide_eq_false_iff_not, Bool.not_true] at h))
    | (with_reducible refine chk_in (by kernel_rfl) ?_)
    | (with_reducible refine And.intro (And.intro (by omega) (by omega)) ?_)
    | (with_reducible refine And.intro (by omega) ?_)
    | (rw [get_in]; rotate_left; omega; simp only [go_sem, reduceIte, Nat.reduceLT, Nat.reduceEqDiff, Nat.reduceAdd, Nat.reduceMul, Nat.reduceSub, Nat.reduceLeDiff, reduceCtorEq, hcd, hx, stD, s1, c1, s2, c2, s3, c3])
    | fail)
  refine aw_rounds (α := Nat) (fun k => ⟨envOf [(0, .sl 3 (stR l)), (1, .sl 1 (intL c)), (4, .nils), (5, i64 0), (6, .row 100), (7, i64 i), (8, .box 101 0), (9, bl (fnd l c i k)), (10, i64 k)], memOf [(100, .row 2 (idR o) true), (101, .cells [i64 a2, i64 a3])], 400⟩)
    (fun k => k ≤ l.length) (fun k => l.length - k) 0 (Nat.zero_le _) (weak_in [(100, 100), (101, _)] (by repeat' (first | trivial | constructor | rfl)) (by repeat' (first | trivial | constructor | rfl)) (by rfl) (by rfl) (by rfl)) ?_
  intro k hk
  by_cases hkt : k < l.length
  · have hkd : decide ((k : Int) < (l.length : Int)) = true := by simp <;> omega
    have hwk := wrS (i := k) (by omega)
    obtain ⟨⟨b1, b2, b3⟩, hy⟩ : ∃ s, l[k]? = some s := ⟨_, List.getElem?_eq_getElem hkt⟩
    have ht : stAt l k = (b1, b2, b3) := by simp [stAt, hy]
    obtain ⟨ck, hck⟩ : ∃ x, c[k]? = some x := ⟨_, List.getElem?_eq_getElem (by omega)⟩
    have htc : inAt c k = ck := by simp [inAt, hck]
    have hfs := fnd_succ l c i k
    rw [hs, ht, hsc, htc] at hfs
    repeat' (first
    | (with_reducible refine aw_seq ?_)
    | (with_reducible refine kont_in ?_; simp only [go_sem, reduceIte, Nat.reduceLT, Nat.reduceEqDiff, Nat.reduceAdd, Nat.reduceMul, Nat.reduceSub, Nat.reduceLeDiff, reduceCtorEq, hkd, hwk, hx, hy, hci, hck, stD, s1, c1, s2, c2, s3, c3])
    | (with_reducible refine dKont_in ?_; simp only [go_sem, reduceIte, Nat.reduceLT, Nat.reduceEqDiff, Nat.reduceAdd, Nat.reduceMul, Nat.reduceSub, Nat.reduceLeDiff, reduceCtorEq, hkd, hwk, hx, hy, hci, hck, stD, s1, c1, s2, c2, s3, c3])
    | (with_reducible refine aw_drw (by kernel_rfl) hK hD ?_; simp only [go_sem, reduceIte, Nat.reduceLT, Nat.reduceEqDiff, Nat.reduceAdd, Nat.reduceMul, Nat.reduceSub, Nat.reduceLeDiff, reduceCtorEq, hkd, hwk, hx, hy, hci, hck, stD, s1, c1, s2, c2, s3, c3])
    | (with_reducible refine aw_reg hK ?_; simp only [go_sem, reduceIte, Nat.reduceLT, Nat.reduceEqDiff, Nat.reduceAdd, Nat.reduceMul, Nat.reduceSub, Nat.reduceLeDiff, reduceCtorEq, hkd, hwk, hx, hy, hci, hck, stD, s1, c1, s2, c2, s3, c3])
    | (with_reducible refine aw_if ?_; simp only [go_sem, reduceIte, Nat.reduceLT, Nat.reduceEqDiff, Nat.reduceAdd, Nat.reduceMul, Nat.reduceSub, Nat.reduceLeDiff, reduceCtorEq, hkd, hwk, hx, hy, hci, hck, stD, s1, c1, s2, c2, s3, c3])
    | (with_reducible refine aw_block ?_)
    | (with_reducible refine aw_ret ?_; (try simp only [thenQ, blockQ]); refine aw_ret' ?_; simp only [go_sem, reduceIte, Nat.reduceLT, Nat.reduceEqDiff, Nat.reduceAdd, Nat.reduceMul, Nat.reduceSub, Nat.reduceLeDiff, reduceCtorEq, hkd, hwk, hx, hy, hci, hck, stD, s1, c1, s2, c2, s3, c3])
    | (with_reducible refine aw_exit ?_; simp only [thenQ, blockQ, reduceIte, Nat.reduceEqDiff])
    | (with_reducible refine aw_skip ?_; simp only [thenQ, blockQ])
    | (with_reducible refine gate_intro (fun h => ?_) (fun h => ?_) <;> simp only [h, go_sem, reduceIte, Nat.reduceLT, Nat.reduceEqDiff, Nat.reduceAdd, Nat.reduceMul, Nat.reduceSub, Nat.reduceLeDiff, reduceCtorEq, hkd, hwk, hx, hy, hci, hck, stD, s1, c1, s2, c2, s3, c3] <;> (try simp only [decide_eq_true_eq, decide_eq_false_iff_not, Bool.not_true] at h))
    | (with_reducible refine chk_in (by kernel_rfl) ?_)
    | (with_reducible refine And.intro (And.intro (by omega) (by omega)) ?_)
    | (with_reducible refine And.intro (by omega) ?_)
    | (refine rvalidc_call rfl (a1, a2, a3) rfl rfl ?_)
    | (refine rvalidc_call rfl (b1, b2, b3) rfl rfl ?_)
    | (refine disputes_call rfl (a1, a2, a3) (b1, b2, b3) rfl rfl rfl ?_)
    | (rw [get_in]; rotate_left; omega; simp only [go_sem, reduceIte, Nat.reduceLT, Nat.reduceEqDiff, Nat.reduceAdd, Nat.reduceMul, Nat.reduceSub, Nat.reduceLeDiff, reduceCtorEq, hkd, hwk, hx, hy, hci, hck, stD, s1, c1, s2, c2, s3, c3])
    | fail)
    all_goals
      refine ⟨k + 1, ?_, by omega, by omega⟩
      rw [hfs]
      simp only [*, Bool.false_or, Bool.true_and, Bool.false_and, Bool.true_or]
      exact weak_in [(100, 100), (101, 101)] (by repeat' (first | trivial | constructor | rfl)) (by repeat' (first | trivial | constructor | rfl)) (by rfl) (by rfl) (by rfl)
  have hkd : decide ((k : Int) < (l.length : Int)) = false := by simp <;> omega
  have e : k = l.length := by omega
  subst e
  repeat' (first
    | (with_reducible refine aw_seq ?_)
    | (with_reducible refine kont_in ?_; simp only [go_sem, reduceIte, Nat.reduceLT, Nat.reduceEqDiff, Nat.reduceAdd, Nat.reduceMul, Nat.reduceSub, Nat.reduceLeDiff, reduceCtorEq, hkd])
    | (with_reducible refine dKont_in ?_; simp only [go_sem, reduceIte, Nat.reduceLT, Nat.reduceEqDiff, Nat.reduceAdd, Nat.reduceMul, Nat.reduceSub, Nat.reduceLeDiff, reduceCtorEq, hkd])
    | (with_reducible refine aw_drw (by kernel_rfl) hK hD ?_; simp only [go_sem, reduceIte, Nat.reduceLT, Nat.reduceEqDiff, Nat.reduceAdd, Nat.reduceMul, Nat.reduceSub, Nat.reduceLeDiff, reduceCtorEq, hkd])
    | (with_reducible refine aw_reg hK ?_; simp only [go_sem, reduceIte, Nat.reduceLT, Nat.reduceEqDiff, Nat.reduceAdd, Nat.reduceMul, Nat.reduceSub, Nat.reduceLeDiff, reduceCtorEq, hkd])
    | (with_reducible refine aw_if ?_; simp only [go_sem, reduceIte, Nat.reduceLT, Nat.reduceEqDiff, Nat.reduceAdd, Nat.reduceMul, Nat.reduceSub, Nat.reduceLeDiff, reduceCtorEq, hkd])
    | (with_reducible refine aw_block ?_)
    | (with_reducible refine aw_ret ?_; (try simp only [thenQ, blockQ]); refine aw_ret' ?_; simp only [go_sem, reduceIte, Nat.reduceLT, Nat.reduceEqDiff, Nat.reduceAdd, Nat.reduceMul, Nat.reduceSub, Nat.reduceLeDiff, reduceCtorEq, hkd])
    | (with_reducible refine aw_exit ?_; simp only [thenQ, blockQ, reduceIte, Nat.reduceEqDiff])
    | (with_reducible refine aw_skip ?_; simp only [thenQ, blockQ])
    | (with_reducible refine gate_intro (fun h => ?_) (fun h => ?_) <;> simp only [h, go_sem, reduceIte, Nat.reduceLT, Nat.reduceEqDiff, Nat.reduceAdd, Nat.reduceMul, Nat.reduceSub, Nat.reduceLeDiff, reduceCtorEq, hkd] <;> (try simp only [decide_eq_true_eq, decide_eq_false_iff_not, Bool.not_true] at h))
    | (with_reducible refine chk_in (by kernel_rfl) ?_)
    | (with_reducible refine And.intro (And.intro (by omega) (by omega)) ?_)
    | (with_reducible refine And.intro (by omega) ?_)
    | (rw [get_in]; rotate_left; omega; simp only [go_sem, reduceIte, Nat.reduceLT, Nat.reduceEqDiff, Nat.reduceAdd, Nat.reduceMul, Nat.reduceSub, Nat.reduceLeDiff, reduceCtorEq, hkd])
    | fail)
  refine aw_rounds (α := Nat) (fun k => ⟨envOf [(0, .sl 3 (stR l)), (1, .sl 1 (intL c)), (4, .nils), (5, i64 0), (6, .row 100), (7, i64 i), (8, .box 101 0), (9, bl (fnd l c i l.length)), (11, i64 k)], memOf [(100, .row 2 (idR o) true), (101, .cells [i64 a2, i64 a3])], 600⟩)
    (fun k => k ≤ o.length ∧ ∀ j x, j < k → o[j]? = some x → befS x (a2, a3) = true) (fun k => o.length - k) 0 ⟨Nat.zero_le _, by intro j x hj; omega⟩ (weak_in [(100, 100), (101, 101)] (by repeat' (first | trivial | constructor | rfl)) (by repeat' (first | trivial | constructor | rfl)) (by rfl) (by rfl) (by rfl)) ?_
  rintro k ⟨hk, hlo⟩
  have ed : List.take (o.length - k) (List.drop k o) = List.drop k o := List.take_of_length_le (by simp)
  have lin : (o.take k ++ [(a2, a3)] ++ (o.drop k).take (o.length - k)).length = o.length + 1 := by
    rw [ed]; simp only [List.length_append, List.length_take, List.length_drop, List.length_singleton]; omega
  by_cases hkt : k < o.length
  · have hkd : decide ((k : Int) < (o.length : Int)) = true := by simp <;> omega
    have hwk := wrS (i := k) (by omega)
    obtain ⟨⟨b2, b3⟩, hy⟩ : ∃ s, o[k]? = some s := ⟨_, List.getElem?_eq_getElem hkt⟩
    repeat' (first
    | (with_reducible refine aw_seq ?_)
    | (with_reducible refine kont_in ?_; simp only [go_sem, reduceIte, Nat.reduceLT, Nat.reduceEqDiff, Nat.reduceAdd, Nat.reduceMul, Nat.reduceSub, Nat.reduceLeDiff, reduceCtorEq, hkd, hwk, hw, hy, idD, s1, c1, s2, c2, s3, c3])
    | (with_reducible refine dKont_in ?_; simp only [go_sem, reduceIte, Nat.reduceLT, Nat.reduceEqDiff, Nat.reduceAdd, Nat.reduceMul, Nat.reduceSub, Nat.reduceLeDiff, reduceCtorEq, hkd, hwk, hw, hy, idD, s1, c1, s2, c2, s3, c3])
    | (with_reducible refine aw_drw (by kernel_rfl) hK hD ?_; simp only [go_sem, reduceIte, Nat.reduceLT, Nat.reduceEqDiff, Nat.reduceAdd, Nat.reduceMul, Nat.reduceSub, Nat.reduceLeDiff, reduceCtorEq, hkd, hwk, hw, hy, idD, s1, c1, s2, c2, s3, c3])
    | (with_reducible refine aw_reg hK ?_; simp only [go_sem, reduceIte, Nat.reduceLT, Nat.reduceEqDiff, Nat.reduceAdd, Nat.reduceMul, Nat.reduceSub, Nat.reduceLeDiff, reduceCtorEq, hkd, hwk, hw, hy, idD, s1, c1, s2, c2, s3, c3])
    | (with_reducible refine aw_if ?_; simp only [go_sem, reduceIte, Nat.reduceLT, Nat.reduceEqDiff, Nat.reduceAdd, Nat.reduceMul, Nat.reduceSub, Nat.reduceLeDiff, reduceCtorEq, hkd, hwk, hw, hy, idD, s1, c1, s2, c2, s3, c3])
    | (with_reducible refine aw_block ?_)
    | (with_reducible refine aw_ret ?_; (try simp only [thenQ, blockQ]); refine aw_ret' ?_; simp only [go_sem, reduceIte, Nat.reduceLT, Nat.reduceEqDiff, Nat.reduceAdd, Nat.reduceMul, Nat.reduceSub, Nat.reduceLeDiff, reduceCtorEq, hkd, hwk, hw, hy, idD, s1, c1, s2, c2, s3, c3])
    | (with_reducible refine aw_exit ?_; simp only [thenQ, blockQ, reduceIte, Nat.reduceEqDiff])
    | (with_reducible refine aw_skip ?_; simp only [thenQ, blockQ])
    | (with_reducible refine gate_intro (fun h => ?_) (fun h => ?_) <;> simp only [h, go_sem, reduceIte, Nat.reduceLT, Nat.reduceEqDiff, Nat.reduceAdd, Nat.reduceMul, Nat.reduceSub, Nat.reduceLeDiff, reduceCtorEq, hkd, hwk, hw, hy, idD, s1, c1, s2, c2, s3, c3] <;> (try simp only [decide_eq_true_eq, decide_eq_false_iff_not, Bool.not_true] at h))
    | (with_reducible refine chk_in (by kernel_rfl) ?_)
    | (with_reducible refine And.intro (And.intro (by omega) (by omega)) ?_)
    | (with_reducible refine And.intro (by omega) ?_)
    | (refine before_call rfl (b2, b3) (a2, a3) rfl rfl rfl ?_)
    | (rw [get_in]; rotate_left; omega; simp only [go_sem, reduceIte, Nat.reduceLT, Nat.reduceEqDiff, Nat.reduceAdd, Nat.reduceMul, Nat.reduceSub, Nat.reduceLeDiff, reduceCtorEq, hkd, hwk, hw, hy, idD, s1, c1, s2, c2, s3, c3])
    | fail)
    · refine ⟨k + 1, weak_in [(100, 100), (101, 101)] (by repeat' (first | trivial | constructor | rfl)) (by repeat' (first | trivial | constructor | rfl)) (by rfl) (by rfl) (by rfl), ⟨by omega, fun j x hj hx => ?_⟩, by omega⟩
      by_cases e : j = k
      · subst e; rw [hy] at hx; cases hx; exact h
      · exact hlo j x (by omega) hx
    · have : idS (stAt l i) ∈ o := by
        rw [hids]; simp at h; rw [← h.1, ← h.2]; exact List.mem_of_getElem? hy
      exact ⟨(i + 1, o), weak_in [(100, 100)] (by repeat' (first | trivial | constructor | rfl)) (by repeat' (first | trivial | constructor | rfl)) (by rfl) (by rfl) (by rfl), ⟨by simp only; omega, hI.skip (.inr this), by simp only; omega⟩, by simp only; omega⟩
    · rename_i hb hf
      have := hI.ins (k := k) (by simpa using hf) hk (by rw [hids]; exact hlo) (by
        intro x hx; rw [hy] at hx; cases hx
        rw [hids]; refine ⟨hb, ?_⟩
        intro he; cases he; simp at h)
      rw [hids, ← ed] at this
      exact ⟨(i + 1, o.take k ++ [(a2, a3)] ++ (o.drop k).take (o.length - k)), weak_in [(100, _)] (by repeat' (first | trivial | constructor | rfl)) (by repeat' (first | trivial | constructor | rfl)) (by rfl) (by rfl) (by rfl), ⟨by simp only; omega, this, by simp only; rw [lin]; omega⟩, by simp only; omega⟩
    · exact ⟨(i + 1, o), weak_in [(100, 100)] (by repeat' (first | trivial | constructor | rfl)) (by repeat' (first | trivial | constructor | rfl)) (by rfl) (by rfl) (by rfl), ⟨by simp only; omega, hI.skip (.inl (by simpa using h)), by simp only; omega⟩, by simp only; omega⟩
  · have hkd : decide ((k : Int) < (o.length : Int)) = false := by simp <;> omega
    repeat' (first
    | (with_reducible refine aw_seq ?_)
    | (with_reducible refine kont_in ?_; simp only [go_sem, reduceIte, Nat.reduceLT, Nat.reduceEqDiff, Nat.reduceAdd, Nat.reduceMul, Nat.reduceSub, Nat.reduceLeDiff, reduceCtorEq, hkd, hw, idD, s1, c1, s2, c2, s3, c3])
    | (with_reducible refine dKont_in ?_; simp only [go_sem, reduceIte, Nat.reduceLT, Nat.reduceEqDiff, Nat.reduceAdd, Nat.reduceMul, Nat.reduceSub, Nat.reduceLeDiff, reduceCtorEq, hkd, hw, idD, s1, c1, s2, c2, s3, c3])
    | (with_reducible refine aw_drw (by kernel_rfl) hK hD ?_; simp only [go_sem, reduceIte, Nat.reduceLT, Nat.reduceEqDiff, Nat.reduceAdd, Nat.reduceMul, Nat.reduceSub, Nat.reduceLeDiff, reduceCtorEq, hkd, hw, idD, s1, c1, s2, c2, s3, c3])
    | (with_reducible refine aw_reg hK ?_; simp only [go_sem, reduceIte, Nat.reduceLT, Nat.reduceEqDiff, Nat.reduceAdd, Nat.reduceMul, Nat.reduceSub, Nat.reduceLeDiff, reduceCtorEq, hkd, hw, idD, s1, c1, s2, c2, s3, c3])
    | (with_reducible refine aw_if ?_; simp only [go_sem, reduceIte, Nat.reduceLT, Nat.reduceEqDiff, Nat.reduceAdd, Nat.reduceMul, Nat.reduceSub, Nat.reduceLeDiff, reduceCtorEq, hkd, hw, idD, s1, c1, s2, c2, s3, c3])
    | (with_reducible refine aw_block ?_)
    | (with_reducible refine aw_ret ?_; (try simp only [thenQ, blockQ]); refine aw_ret' ?_; simp only [go_sem, reduceIte, Nat.reduceLT, Nat.reduceEqDiff, Nat.reduceAdd, Nat.reduceMul, Nat.reduceSub, Nat.reduceLeDiff, reduceCtorEq, hkd, hw, idD, s1, c1, s2, c2, s3, c3])
    | (with_reducible refine aw_exit ?_; simp only [thenQ, blockQ, reduceIte, Nat.reduceEqDiff])
    | (with_reducible refine aw_skip ?_; simp only [thenQ, blockQ])
    | (with_reducible refine gate_intro (fun h => ?_) (fun h => ?_) <;> simp only [h, go_sem, reduceIte, Nat.reduceLT, Nat.reduceEqDiff, Nat.reduceAdd, Nat.reduceMul, Nat.reduceSub, Nat.reduceLeDiff, reduceCtorEq, hkd, hw, idD, s1, c1, s2, c2, s3, c3] <;> (try simp only [decide_eq_true_eq, decide_eq_false_iff_not, Bool.not_true] at h))
    | (with_reducible refine chk_in (by kernel_rfl) ?_)
    | (with_reducible refine And.intro (And.intro (by omega) (by omega)) ?_)
    | (with_reducible refine And.intro (by omega) ?_)
    | (rw [get_in]; rotate_left; omega; simp only [go_sem, reduceIte, Nat.reduceLT, Nat.reduceEqDiff, Nat.reduceAdd, Nat.reduceMul, Nat.reduceSub, Nat.reduceLeDiff, reduceCtorEq, hkd, hw, idD, s1, c1, s2, c2, s3, c3])
    | fail)
    · have hk2 : k = o.length := by omega
      have := hI.ins (k := k) (by simpa using h) hk (by rw [hids]; exact hlo) (by
        intro x hx; rw [List.getElem?_eq_none (by omega)] at hx; cases hx)
      rw [hids, ← ed] at this
      exact ⟨(i + 1, o.take k ++ [(a2, a3)] ++ (o.drop k).take (o.length - k)), weak_in [(100, _)] (by repeat' (first | trivial | constructor | rfl)) (by repeat' (first | trivial | constructor | rfl)) (by rfl) (by rfl) (by rfl), ⟨by simp only; omega, this, by simp only; rw [lin]; omega⟩, by simp only; omega⟩
    · exact ⟨(i + 1, o), weak_in [(100, 100)] (by repeat' (first | trivial | constructor | rfl)) (by repeat' (first | trivial | constructor | rfl)) (by rfl) (by rfl) (by rfl), ⟨by simp only; omega, hI.skip (.inl (by simpa using h)), by simp only; omega⟩, by simp only; omega⟩
end Go.Proofs.R1
