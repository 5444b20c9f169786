/- The comparisons that sorts are given. -/
import Derived.Test.YtgihcmeifafnjaaCR1F
set_option linter.unusedVariables false
set_option linter.unusedSimpArgs false
set_option maxRecDepth 8000
set_option maxHeartbeats 4000000
namespace Go.Proofs.R1
open Go Go.Abs

def stAt (l : List St) (i : Nat) : St := (l[i]?).getD (0, 0, 0)
def byStampC : Con where
  α := List St × Nat × Nat
  kinds := [false, false, false]
  args := fun a => [.d (i64 a.2.1), .d (i64 a.2.2), .d (.rp 1 [[stL a.1]] 0 0)]
  pre := fun a => a.2.1 < a.1.length ∧ a.2.2 < a.1.length
  post := fun a r => r = ⟨[.d (i64 (cmpS (stAt a.1 a.2.1) (stAt a.1 a.2.2)))], []⟩
  clean := true
theorem compare_call {K : Kt} (hk : K 14 = some compareC) {np fid : Nat} {M : Mem} {nx : D → Mem → Prop} (s t : St) {d e : D} (hd : d = .agg (stD s)) (he : e = .agg (stD t)) (hf : M fid = none) (hn : nx (i64 (cmpS s t)) M) : semCall K np 14 [d, e] M fid nx := by
  subst hd; subst he
  exact call_fn hk rfl rfl (fun _ _ h => h) (s, t) rfl trivial hf hn
theorem byStamp_ok : CallOk Try.prog 39 byStampC := by
  refine ok_of_body' 15 3 Try.func39 rfl (by decide) Try.ntmps39 (by intro a h; exact ⟨rfl, rfl⟩) (by decide) (by rintro _ a r _ rfl; rfl) ?_
  rintro ⟨l, i, j⟩ ⟨hi, hj⟩
  simp only [byStampC] at hi hj ⊢
  simp only [initE, initMm, List.length_cons, List.length_nil, Nat.reduceAdd]
  have hK : KOk Try.prog (kOf [(14, compareC)]) := kOk_cons compare_ok kOk_nil
  have hD : KDet (kOf [(14, compareC)]) := kDet_cons (fun _ _ => ⟨_, rfl, by simp, fun _ h => h⟩) kDet_nil
  have s1 : compareC.srt = none := rfl
  have c1 : compareC.clean = true := rfl
  obtain ⟨⟨a, b, c⟩, hx⟩ : ∃ x, l[i]? = some x := ⟨_, List.getElem?_eq_getElem hi⟩
  obtain ⟨⟨d, e, f⟩, hy⟩ : ∃ x, l[j]? = some x := ⟨_, List.getElem?_eq_getElem hj⟩
  simp only [stL]
  repeat' (first
    | (with_reducible refine aw_seq ?_)
    | (with_reducible refine kont_in ?_; simp only [go_sem, reduceIte, Nat.reduceLT, Nat.reduceEqDiff, Nat.reduceAdd, Nat.reduceMul, Nat.reduceSub, Nat.reduceLeDiff, reduceCtorEq, s1, c1, hx, hy, stD, Try.results39])
    | (with_reducible refine dKont_in ?_; simp only [go_sem, reduceIte, Nat.reduceLT, Nat.reduceEqDiff, Nat.reduceAdd, Nat.reduceMul, Nat.reduceSub, Nat.reduceLeDiff, reduceCtorEq, s1, c1, hx, hy, stD, Try.results39])
    | (with_reducible refine aw_drw (by kernel_rfl) hK hD ?_; simp only [go_sem, reduceIte, Nat.reduceLT, Nat.reduceEqDiff, Nat.reduceAdd, Nat.reduceMul, Nat.reduceSub, Nat.reduceLeDiff, reduceCtorEq, s1, c1, hx, hy, stD, Try.results39])
    | (with_reducible refine aw_reg hK ?_; simp only [go_sem, reduceIte, Nat.reduceLT, Nat.reduceEqDiff, Nat.reduceAdd, Nat.reduceMul, Nat.reduceSub, Nat.reduceLeDiff, reduceCtorEq, s1, c1, hx, hy, stD, Try.results39])
    | (with_reducible refine aw_if ?_; simp only [go_sem, reduceIte, Nat.reduceLT, Nat.reduceEqDiff, Nat.reduceAdd, Nat.reduceMul, Nat.reduceSub, Nat.reduceLeDiff, reduceCtorEq, s1, c1, hx, hy, stD, Try.results39])
    | (with_reducible refine aw_block ?_)
    | (with_reducible refine aw_ret ?_; (try simp only [thenQ, blockQ]); refine aw_ret' ?_; simp only [go_sem, reduceIte, Nat.reduceLT, Nat.reduceEqDiff, Nat.reduceAdd, Nat.reduceMul, Nat.reduceSub, Nat.reduceLeDiff, reduceCtorEq, s1, c1, hx, hy, stD, Try.results39])
    | (with_reducible refine aw_exit ?_; simp only [thenQ, blockQ, reduceIte, Nat.reduceEqDiff])
    | (with_reducible refine aw_skip ?_; simp only [thenQ, blockQ])
    | (with_reducible refine gate_intro (fun h => ?_) (fun h => ?_) <;> simp only [h, go_sem, reduceIte, Nat.reduceLT, Nat.reduceEqDiff, Nat.reduceAdd, Nat.reduceMul, Nat.reduceSub, Nat.reduceLeDiff, reduceCtorEq, s1, c1, hx, hy, stD, Try.results39] <;> (try simp only [decide_eq_true_eq, decide_eq_false_iff_not, Bool.not_true] at h))
    | (with_reducible refine chk_in (by kernel_rfl) ?_)
    | (with_reducible refine And.intro (And.intro (by omega) (by omega)) ?_)
    | (with_reducible refine And.intro (by omega) ?_)
    | (refine compare_call rfl (a, b, c) (d, e, f) rfl rfl rfl ?_)
    | (rw [get_in]; rotate_left; omega; simp only [go_sem, reduceIte, Nat.reduceLT, Nat.reduceEqDiff, Nat.reduceAdd, Nat.reduceMul, Nat.reduceSub, Nat.reduceLeDiff, reduceCtorEq, s1, c1, hx, hy, stD, Try.results39])
    | fail)
  all_goals (simp [stAt, hx, hy])

def byIdC : Con where
  α := (Int × Int) × (Int × Int)
  kinds := [false, false]
  args := fun a => [.d (.agg (idD a.1)), .d (.agg (idD a.2))]
  pre := fun a => True
  post := fun a r => r = ⟨[.d (i64 (firstNZ [ordI a.1.1 a.2.1, ordI a.1.2 a.2.2]))], []⟩
  clean := true
theorem byId_ok : CallOk Try.prog 43 byIdC := by
  refine ok_of_body' 17 2 Try.func43 rfl (by decide) Try.ntmps43 (by intro a h; exact ⟨rfl, rfl⟩) (by decide) (by rintro _ a r _ rfl; rfl) ?_
  rintro ⟨⟨a, b⟩, ⟨c, d⟩⟩ hn
  simp only [byIdC, idD] at hn ⊢
  simp only [initE, initMm, List.length_cons, List.length_nil, Nat.reduceAdd]
  have hK : KOk Try.prog (kOf [(33, orderC), (32, orC)]) := kOk_cons cmp_ok (kOk_cons or_ok kOk_nil)
  have hD : KDet (kOf [(33, orderC), (32, orC)]) := kDet_cons (fun _ _ => ⟨_, rfl, by simp, fun _ h => h⟩) (kDet_cons (fun _ _ => ⟨_, rfl, by simp, fun _ h => h⟩) kDet_nil)
  have s1 : orderC.srt = none := rfl
  have s2 : orC.srt = none := rfl
  have c1 : orderC.clean = true := rfl
  have c2 : orC.clean = true := rfl
  repeat' (first
    | (with_reducible refine aw_seq ?_)
    | (with_reducible refine kont_in ?_; simp only [go_sem, reduceIte, Nat.reduceLT, Nat.reduceEqDiff, Nat.reduceAdd, Nat.reduceMul, Nat.reduceSub, Nat.reduceLeDiff, reduceCtorEq, s1, s2, c1, c2, Try.results43])
    | (with_reducible refine dKont_in ?_; simp only [go_sem, reduceIte, Nat.reduceLT, Nat.reduceEqDiff, Nat.reduceAdd, Nat.reduceMul, Nat.reduceSub, Nat.reduceLeDiff, reduceCtorEq, s1, s2, c1, c2, Try.results43])
    | (with_reducible refine aw_drw (by kernel_rfl) hK hD ?_; simp only [go_sem, reduceIte, Nat.reduceLT, Nat.reduceEqDiff, Nat.reduceAdd, Nat.reduceMul, Nat.reduceSub, Nat.reduceLeDiff, reduceCtorEq, s1, s2, c1, c2, Try.results43])
    | (with_reducible refine aw_reg hK ?_; simp only [go_sem, reduceIte, Nat.reduceLT, Nat.reduceEqDiff, Nat.reduceAdd, Nat.reduceMul, Nat.reduceSub, Nat.reduceLeDiff, reduceCtorEq, s1, s2, c1, c2, Try.results43])
    | (with_reducible refine aw_if ?_; simp only [go_sem, reduceIte, Nat.reduceLT, Nat.reduceEqDiff, Nat.reduceAdd, Nat.reduceMul, Nat.reduceSub, Nat.reduceLeDiff, reduceCtorEq, s1, s2, c1, c2, Try.results43])
    | (with_reducible refine aw_block ?_)
    | (with_reducible refine aw_ret ?_; (try simp only [thenQ, blockQ]); refine aw_ret' ?_; simp only [go_sem, reduceIte, Nat.reduceLT, Nat.reduceEqDiff, Nat.reduceAdd, Nat.reduceMul, Nat.reduceSub, Nat.reduceLeDiff, reduceCtorEq, s1, s2, c1, c2, Try.results43])
    | (with_reducible refine aw_exit ?_; simp only [thenQ, blockQ, reduceIte, Nat.reduceEqDiff])
    | (with_reducible refine aw_skip ?_; simp only [thenQ, blockQ])
    | (with_reducible refine gate_intro (fun h => ?_) (fun h => ?_) <;> simp only [h, go_sem, reduceIte, Nat.reduceLT, Nat.reduceEqDiff, Nat.reduceAdd, Nat.reduceMul, Nat.reduceSub, Nat.reduceLeDiff, reduceCtorEq, s1, s2, c1, c2, Try.results43] <;> (try simp only [decide_eq_true_eq, decide_eq_false_iff_not, Bool.not_true] at h))
    | (with_reducible refine chk_in (by kernel_rfl) ?_)
    | (with_reducible refine And.intro (And.intro (by omega) (by omega)) ?_)
    | (with_reducible refine And.intro (by omega) ?_)
    | (refine cmp_call rfl rfl ?_)
    | (refine or_call (l := [_, _]) rfl rfl (by simp) rfl ?_)
    | (rw [get_in]; rotate_left; omega; simp only [go_sem, reduceIte, Nat.reduceLT, Nat.reduceEqDiff, Nat.reduceAdd, Nat.reduceMul, Nat.reduceSub, Nat.reduceLeDiff, reduceCtorEq, s1, s2, c1, c2, Try.results43])
    | fail)
end Go.Proofs.R1
