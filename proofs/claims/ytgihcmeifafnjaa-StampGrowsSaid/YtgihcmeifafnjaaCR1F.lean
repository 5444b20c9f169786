/- The tape's stamps. -/
import Derived.Test.YtgihcmeifafnjaaCR1E
set_option linter.unusedVariables false
set_option linter.unusedSimpArgs false
set_option maxRecDepth 8000
set_option maxHeartbeats 4000000
namespace Go.Proofs.R1
open Go Go.Abs

theorem tp_fz (M : Mem) (t : Tp) : mapO (fz M false 1) (tpD t) = some (tpD t) := rfl
theorem wild_call {K : Kt} (hk : K 47 = some wildC) {np fid id : Nat} {M : Mem} {nx : D → Mem → Prop} (t : Tp) (hm : M id = some (.cells (tpD t))) (hp : tpOk t) (hf : M fid = none)
    (hn : nx (i64 (pickI t wildL)) (upd M id (some (.cells (tpD (raw t).2))))) : semCall K np 47 [.box id 0] M fid nx :=
  call_io hk rfl rfl (fun _ _ h => h) t (by simp [nf, hm, tpD, slI, nf0]) rfl (by simp [wildC, argsF, ioArg, hm, consAD, tpD, slI, mapO, fz, fz0]) hp hf hn

/-- Some stamp, and the tape behind it. -/
abbrev stampC : Con where
  α := Tp × Int
  kinds := [true, false]
  args := fun a => [.io (tpD a.1), .d (i64 a.2)]
  pre := fun a => tpOk a.1 ∧ 0 ≤ a.2 ∧ a.2 ≤ 1000000
  post := fun a r => ∃ (s : St) (t : Tp), tpOk t ∧ r = ⟨[.d (.agg (stD s))], [tpD t]⟩
  clean := false
theorem stampT_ok : CallOk Try.prog 35 stampC := by
  refine ok_of_body' 36 2 Try.func35 rfl (by decide) Try.ntmps35 (by intro a h; exact ⟨rfl, rfl⟩) (by decide) (by intro h; cases h) ?_
  rintro ⟨t, n⟩ ⟨h1, h2, h3⟩
  simp only [stampC] at h1 h2 h3 ⊢
  simp only [initE, initMm, List.length_cons, List.length_nil, Nat.reduceAdd]
  have hK : KOk Try.prog (kOf [(23, rangeC), (19, oneC), (36, nextC), (47, wildC)]) := kOk_cons range_ok' (kOk_cons one_ok (kOk_cons next_ok' (kOk_cons wild_ok kOk_nil)))
  have o1 := raw_ok h1
  have o2 := raw_ok o1
  have o3 := raw_ok o2
  have o4 := raw_ok o3
  have o5 := raw_ok o4
  have o6 := raw_ok o5
  repeat' (first
    | (with_reducible refine aw_seq ?_)
    | (with_reducible refine kont_in ?_; simp only [go_sem, reduceIte, Nat.reduceLT, Nat.reduceEqDiff, Nat.reduceAdd, Nat.reduceMul, Nat.reduceSub, Nat.reduceLeDiff, reduceCtorEq, tp_frz, tp_fz, Try.results35])
    | (with_reducible refine dKont_in ?_; simp only [go_sem, reduceIte, Nat.reduceLT, Nat.reduceEqDiff, Nat.reduceAdd, Nat.reduceMul, Nat.reduceSub, Nat.reduceLeDiff, reduceCtorEq, tp_frz, tp_fz, Try.results35])
    | (with_reducible refine aw_drw (by kernel_rfl) hK kDet_nil ?_; simp only [go_sem, reduceIte, Nat.reduceLT, Nat.reduceEqDiff, Nat.reduceAdd, Nat.reduceMul, Nat.reduceSub, Nat.reduceLeDiff, reduceCtorEq, tp_frz, tp_fz, Try.results35])
    | (with_reducible refine aw_reg hK ?_; simp only [go_sem, reduceIte, Nat.reduceLT, Nat.reduceEqDiff, Nat.reduceAdd, Nat.reduceMul, Nat.reduceSub, Nat.reduceLeDiff, reduceCtorEq, tp_frz, tp_fz, Try.results35])
    | (with_reducible refine aw_if ?_; simp only [go_sem, reduceIte, Nat.reduceLT, Nat.reduceEqDiff, Nat.reduceAdd, Nat.reduceMul, Nat.reduceSub, Nat.reduceLeDiff, reduceCtorEq, tp_frz, tp_fz, Try.results35])
    | (with_reducible refine aw_block ?_)
    | (with_reducible refine aw_ret ?_; (try simp only [thenQ, blockQ]); refine aw_ret' ?_; simp only [go_sem, reduceIte, Nat.reduceLT, Nat.reduceEqDiff, Nat.reduceAdd, Nat.reduceMul, Nat.reduceSub, Nat.reduceLeDiff, reduceCtorEq, tp_frz, tp_fz, Try.results35])
    | (with_reducible refine aw_exit ?_; simp only [thenQ, blockQ, reduceIte, Nat.reduceEqDiff])
    | (with_reducible refine aw_skip ?_; simp only [thenQ, blockQ])
    | (with_reducible refine gate_intro (fun h => ?_) (fun h => ?_) <;> simp only [h, go_sem, reduceIte, Nat.reduceLT, Nat.reduceEqDiff, Nat.reduceAdd, Nat.reduceMul, Nat.reduceSub, Nat.reduceLeDiff, reduceCtorEq, tp_frz, tp_fz, Try.results35] <;> (try simp only [decide_eq_true_eq, decide_eq_false_iff_not, Bool.not_true] at h))
    | (with_reducible refine chk_in (by kernel_rfl) ?_)
    | (with_reducible refine And.intro (And.intro (by omega) (by omega)) ?_)
    | (with_reducible refine And.intro (by omega) ?_)
    | (refine range_call rfl t 0 24 rfl h1 (by omega) rfl ?_)
    | (refine range_call rfl _ 0 3 rfl o1 (by omega) rfl ?_)
    | (refine range_call rfl _ 0 9 rfl o2 (by omega) rfl ?_)
    | (refine one_call rfl _ n rfl o3 (by omega) (by omega) rfl ?_)
    | (refine tp_call (f := 36) rfl _ 3 rfl o4 (by omega) rfl ?_)
    | (refine wild_call rfl _ rfl o5 rfl ?_)
    | (rw [get_in]; rotate_left; omega; simp only [go_sem, reduceIte, Nat.reduceLT, Nat.reduceEqDiff, Nat.reduceAdd, Nat.reduceMul, Nat.reduceSub, Nat.reduceLeDiff, reduceCtorEq, tp_frz, tp_fz, Try.results35])
    | fail)
  all_goals first | exact ⟨(_, _, _), _, o6, rfl⟩ | exact ⟨(_, _, _), _, o4, rfl⟩ | exact ⟨(_, _, _), _, o3, rfl⟩
end Go.Proofs.R1
