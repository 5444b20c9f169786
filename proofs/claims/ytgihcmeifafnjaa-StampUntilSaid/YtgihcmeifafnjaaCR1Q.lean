/- Laws of canonical lists. -/
import Derived.Test.YtgihcmeifafnjaaCR1O
set_option linter.unusedVariables false
set_option linter.unusedSimpArgs false
set_option maxRecDepth 8000
set_option maxHeartbeats 4000000
namespace Go.Proofs.R1
open Go Go.Abs

theorem newT_ok (l : List Int) : tpOk (newT l) := by
  simp only [tpOk, newT, List.length_take]; omega
theorem new_call {K : Kt} (hk : K 17 = some newC) {np fid : Nat} {M : Mem} {nx : D → Mem → Prop} (l : List Int) (hl : l.length ≤ 9223372036854775807) (hf : ∀ j, M (fid + j) = none)
    (hn : ∀ t, tpOk t → nx (.box fid 0) (upd M fid (some (.cells (tpD t))))) : semCall K np 17 [.sl 1 (intL l)] M fid nx :=
  call_uR hk rfl rfl l rfl rfl rfl hl hf (by rintro r rfl; exact hn _ (newT_ok l))
theorem until_call {K : Kt} {f : FuncId} (hk : K f = some untilC) {np fid : Nat} {M : Mem} {nx : D → Mem → Prop} (l : List St) (n : Int) {x : D} (hx : fz M true 4 x = some (.sl 3 (stR l))) (hl : l.length ≤ 9223372036854775807) (hf : M fid = none) (hn : nx (i64 (untilI l n)) M) : semCall K np f [x, i64 n] M fid nx :=
  call_fn hk rfl rfl (fun _ _ h => h) (l, n) (by simp only [argsV, mapO, hx]; rfl) hl hf hn

abbrev untilLawC : Con := lawC (List Int × Int) (fun a => [.d (.sl 1 (intL a.1)), .d (i64 a.2)]) (fun a => a.1.length ≤ 9223372036854775807) [false, false]
theorem untilLaw_ok : CallOk Try.prog 9 untilLawC := by
  refine ok_of_body' 37 2 Try.func9 rfl (by decide) Try.ntmps9 (by intro a h; exact ⟨rfl, rfl⟩) (by decide) (by rintro _ a r _ rfl; rfl) ?_
  rintro ⟨tl, n⟩ h1
  simp only [lawC] at h1 ⊢
  simp only [initE, initMm, List.length_cons, List.length_nil, Nat.reduceAdd]
  have hK : KOk Try.prog (kOf [(17, newC), (18, eventsC), (23, rangeC), (28, untilC), (29, untilC), (16, trueC)]) := kOk_cons new_ok (kOk_cons events_ok (kOk_cons range_ok' (kOk_cons until_ok (kOk_cons runtil_ok (kOk_cons awake_ok kOk_nil)))))
  repeat' (first
    | (with_reducible refine aw_seq ?_)
    | (with_reducible refine kont_in ?_; simp only [go_sem, reduceIte, Nat.reduceLT, Nat.reduceEqDiff, Nat.reduceAdd, Nat.reduceMul, Nat.reduceSub, Nat.reduceLeDiff, reduceCtorEq, tp_frz, tp_fz])
    | (with_reducible refine dKont_in ?_; simp only [go_sem, reduceIte, Nat.reduceLT, Nat.reduceEqDiff, Nat.reduceAdd, Nat.reduceMul, Nat.reduceSub, Nat.reduceLeDiff, reduceCtorEq, tp_frz, tp_fz])
    | (with_reducible refine aw_drw (by kernel_rfl) hK kDet_nil ?_; simp only [go_sem, reduceIte, Nat.reduceLT, Nat.reduceEqDiff, Nat.reduceAdd, Nat.reduceMul, Nat.reduceSub, Nat.reduceLeDiff, reduceCtorEq, tp_frz, tp_fz])
    | (with_reducible refine aw_reg hK ?_; simp only [go_sem, reduceIte, Nat.reduceLT, Nat.reduceEqDiff, Nat.reduceAdd, Nat.reduceMul, Nat.reduceSub, Nat.reduceLeDiff, reduceCtorEq, tp_frz, tp_fz])
    | (with_reducible refine aw_if ?_; simp only [go_sem, reduceIte, Nat.reduceLT, Nat.reduceEqDiff, Nat.reduceAdd, Nat.reduceMul, Nat.reduceSub, Nat.reduceLeDiff, reduceCtorEq, tp_frz, tp_fz])
    | (with_reducible refine aw_block ?_)
    | (with_reducible refine aw_ret ?_; (try simp only [thenQ, blockQ]); refine aw_ret' ?_; simp only [go_sem, reduceIte, Nat.reduceLT, Nat.reduceEqDiff, Nat.reduceAdd, Nat.reduceMul, Nat.reduceSub, Nat.reduceLeDiff, reduceCtorEq, tp_frz, tp_fz])
    | (with_reducible refine aw_exit ?_; simp only [thenQ, blockQ, reduceIte, Nat.reduceEqDiff])
    | (with_reducible refine aw_skip ?_; simp only [thenQ, blockQ])
    | (with_reducible refine gate_intro (fun h => ?_) (fun h => ?_) <;> simp only [h, go_sem, reduceIte, Nat.reduceLT, Nat.reduceEqDiff, Nat.reduceAdd, Nat.reduceMul, Nat.reduceSub, Nat.reduceLeDiff, reduceCtorEq, tp_frz, tp_fz] <;> (try simp only [decide_eq_true_eq, decide_eq_false_iff_not, Bool.not_true] at h))
    | (with_reducible refine chk_in (by kernel_rfl) ?_)
    | (with_reducible refine And.intro (And.intro (by omega) (by omega)) ?_)
    | (with_reducible refine And.intro (by omega) ?_)
    | (refine new_call rfl tl h1 (memOf_free rfl) (fun t ht => ?_))
    | (refine events_call rfl _ _ _ rfl (by assumption) (by omega) (memOf_free rfl) (fun l c t1 ht1 hc hl => ?_))
    | (refine rng_call rfl _ _ _ rfl (by assumption) (by omega) rfl (fun v t2 ht2 _ _ => ?_))
    | (refine until_call rfl l _ rfl (by omega) rfl ?_)
    | (refine true_call rfl rfl ?_)
    | (rw [get_in]; rotate_left; omega; simp only [go_sem, reduceIte, Nat.reduceLT, Nat.reduceEqDiff, Nat.reduceAdd, Nat.reduceMul, Nat.reduceSub, Nat.reduceLeDiff, reduceCtorEq, tp_frz, tp_fz])
    | fail)
  all_goals first | rfl | (exfalso; simp at h; done)

abbrev canLawC : Con := lawC (List Int × List Int) (fun a => [.d (.sl 1 (intL a.1)), .d (.sl 1 (intL a.2))]) (fun a => a.1.length ≤ 9223372036854775807 ∧ a.2.length ≤ 9223372036854775807) [false, false]
theorem canLaw_ok : CallOk Try.prog 4 canLawC := by
  refine ok_of_body' 52 2 Try.func4 rfl (by decide) Try.ntmps4 (by intro a h; exact ⟨rfl, rfl⟩) (by decide) (by rintro _ a r _ rfl; rfl) ?_
  rintro ⟨tl, ex⟩ ⟨h1, h2⟩
  simp only [lawC] at h1 h2 ⊢
  simp only [initE, initMm, List.length_cons, List.length_nil, Nat.reduceAdd]
  have hK : KOk Try.prog (kOf [(17, newC), (18, eventsC), (19, oneC), (20, canC), (21, canC), (22, sameC), (16, trueC)]) := kOk_cons new_ok (kOk_cons events_ok (kOk_cons one_ok (kOk_cons canP_ok (kOk_cons canR_ok (kOk_cons same_ok (kOk_cons awake_ok kOk_nil))))))
  repeat' (first
    | (with_reducible refine aw_seq ?_)
    | (with_reducible refine kont_in ?_; simp only [go_sem, reduceIte, Nat.reduceLT, Nat.reduceEqDiff, Nat.reduceAdd, Nat.reduceMul, Nat.reduceSub, Nat.reduceLeDiff, reduceCtorEq, tp_frz, tp_fz])
    | (with_reducible refine dKont_in ?_; simp only [go_sem, reduceIte, Nat.reduceLT, Nat.reduceEqDiff, Nat.reduceAdd, Nat.reduceMul, Nat.reduceSub, Nat.reduceLeDiff, reduceCtorEq, tp_frz, tp_fz])
    | (with_reducible refine aw_drw (by kernel_rfl) hK kDet_nil ?_; simp only [go_sem, reduceIte, Nat.reduceLT, Nat.reduceEqDiff, Nat.reduceAdd, Nat.reduceMul, Nat.reduceSub, Nat.reduceLeDiff, reduceCtorEq, tp_frz, tp_fz])
    | (with_reducible refine aw_reg hK ?_; simp only [go_sem, reduceIte, Nat.reduceLT, Nat.reduceEqDiff, Nat.reduceAdd, Nat.reduceMul, Nat.reduceSub, Nat.reduceLeDiff, reduceCtorEq, tp_frz, tp_fz])
    | (with_reducible refine aw_if ?_; simp only [go_sem, reduceIte, Nat.reduceLT, Nat.reduceEqDiff, Nat.reduceAdd, Nat.reduceMul, Nat.reduceSub, Nat.reduceLeDiff, reduceCtorEq, tp_frz, tp_fz])
    | (with_reducible refine aw_block ?_)
    | (with_reducible refine aw_ret ?_; (try simp only [thenQ, blockQ]); refine aw_ret' ?_; simp only [go_sem, reduceIte, Nat.reduceLT, Nat.reduceEqDiff, Nat.reduceAdd, Nat.reduceMul, Nat.reduceSub, Nat.reduceLeDiff, reduceCtorEq, tp_frz, tp_fz])
    | (with_reducible refine aw_exit ?_; simp only [thenQ, blockQ, reduceIte, Nat.reduceEqDiff])
    | (with_reducible refine aw_skip ?_; simp only [thenQ, blockQ])
    | (with_reducible refine gate_intro (fun h => ?_) (fun h => ?_) <;> simp only [h, go_sem, reduceIte, Nat.reduceLT, Nat.reduceEqDiff, Nat.reduceAdd, Nat.reduceMul, Nat.reduceSub, Nat.reduceLeDiff, reduceCtorEq, tp_frz, tp_fz] <;> (try simp only [decide_eq_true_eq, decide_eq_false_iff_not, Bool.not_true] at h))
    | (with_reducible refine chk_in (by kernel_rfl) ?_)
    | (with_reducible refine And.intro (And.intro (by omega) (by omega)) ?_)
    | (with_reducible refine And.intro (by omega) ?_)
    | (refine new_call rfl tl h1 (memOf_free rfl) (fun t ht => ?_))
    | (refine events_call rfl _ _ _ rfl (by assumption) (by omega) (memOf_free rfl) (fun l c t1 ht1 hc hl => ?_))
    | (refine oneb_call rfl _ _ rfl (by assumption) (by omega) rfl (fun b t2 ht2 => ?_))
    | (refine canP_call rfl l _ rfl rfl (by omega) (memOf_free rfl) ?_)
    | (refine canR_call rfl l _ rfl rfl (by omega) (memOf_free rfl) ?_)
    | (refine samei_call rfl _ _ rfl rfl (canR_len _ _ (by omega)) rfl ?_)
    | (refine true_call rfl rfl ?_)
    | (rw [get_in]; rotate_left; omega; simp only [go_sem, reduceIte, Nat.reduceLT, Nat.reduceEqDiff, Nat.reduceAdd, Nat.reduceMul, Nat.reduceSub, Nat.reduceLeDiff, reduceCtorEq, tp_frz, tp_fz])
    | fail)
  all_goals first | rfl | (exfalso; simp at h; done)

abbrev knowsLawC : Con := lawC (List Int × Int) (fun a => [.d (.sl 1 (intL a.1)), .d (i64 a.2)]) (fun a => a.1.length ≤ 9223372036854775807) [false, false]
theorem knowsLaw_ok : CallOk Try.prog 5 knowsLawC := by
  refine ok_of_body' 80 2 Try.func5 rfl (by decide) Try.ntmps5 (by intro a h; exact ⟨rfl, rfl⟩) (by decide) (by rintro _ a r _ rfl; rfl) ?_
  rintro ⟨tl, n⟩ h1
  simp only [lawC] at h1 ⊢
  simp only [initE, initMm, List.length_cons, List.length_nil, Nat.reduceAdd]
  have hK : KOk Try.prog (kOf [(20, canC), (24, knownC), (25, knownC), (22, sameC), (16, trueC)]) := kOk_cons canP_ok (kOk_cons knownP_ok (kOk_cons knownR_ok (kOk_cons same_ok (kOk_cons awake_ok kOk_nil))))
  have hD : KDet (kOf [(20, canC), (24, knownC), (25, knownC), (22, sameC), (16, trueC)]) := kDet_cons (fun _ _ => ⟨_, rfl, by simp, fun _ h => h⟩) (kDet_cons (fun _ _ => ⟨_, rfl, by simp, fun _ h => h⟩) (kDet_cons (fun _ _ => ⟨_, rfl, by simp, fun _ h => h⟩) (kDet_cons (fun _ _ => ⟨_, rfl, by simp, fun _ h => h⟩) (kDet_cons (fun _ _ => ⟨_, rfl, by simp, fun _ h => h⟩) kDet_nil))))
  have hK' : KOk Try.prog (kOf [(17, newC), (18, eventsC), (23, rangeC), (20, canC), (24, knownC), (25, knownC), (22, sameC), (16, trueC)]) := kOk_cons new_ok (kOk_cons events_ok (kOk_cons range_ok' hK))
  have s1 : canC.srt = none := rfl
  have c1 : canC.clean = true := rfl
  repeat' (first
    | (with_reducible refine aw_seq ?_)
    | (with_reducible refine kont_in ?_; simp only [go_sem, reduceIte, Nat.reduceLT, Nat.reduceEqDiff, Nat.reduceAdd, Nat.reduceMul, Nat.reduceSub, Nat.reduceLeDiff, reduceCtorEq, s1, c1, tp_frz, tp_fz])
    | (with_reducible refine dKont_in ?_; simp only [go_sem, reduceIte, Nat.reduceLT, Nat.reduceEqDiff, Nat.reduceAdd, Nat.reduceMul, Nat.reduceSub, Nat.reduceLeDiff, reduceCtorEq, s1, c1, tp_frz, tp_fz])
    | (with_reducible refine aw_drw (by kernel_rfl) hK hD ?_; simp only [go_sem, reduceIte, Nat.reduceLT, Nat.reduceEqDiff, Nat.reduceAdd, Nat.reduceMul, Nat.reduceSub, Nat.reduceLeDiff, reduceCtorEq, s1, c1, tp_frz, tp_fz])
    | (with_reducible refine aw_reg hK' ?_; simp only [go_sem, reduceIte, Nat.reduceLT, Nat.reduceEqDiff, Nat.reduceAdd, Nat.reduceMul, Nat.reduceSub, Nat.reduceLeDiff, reduceCtorEq, s1, c1, tp_frz, tp_fz])
    | (with_reducible refine aw_if ?_; simp only [go_sem, reduceIte, Nat.reduceLT, Nat.reduceEqDiff, Nat.reduceAdd, Nat.reduceMul, Nat.reduceSub, Nat.reduceLeDiff, reduceCtorEq, s1, c1, tp_frz, tp_fz])
    | (with_reducible refine aw_block ?_)
    | (with_reducible refine aw_ret ?_; (try simp only [thenQ, blockQ]); refine aw_ret' ?_; simp only [go_sem, reduceIte, Nat.reduceLT, Nat.reduceEqDiff, Nat.reduceAdd, Nat.reduceMul, Nat.reduceSub, Nat.reduceLeDiff, reduceCtorEq, s1, c1, tp_frz, tp_fz])
    | (with_reducible refine aw_exit ?_; simp only [thenQ, blockQ, reduceIte, Nat.reduceEqDiff])
    | (with_reducible refine aw_skip ?_; simp only [thenQ, blockQ])
    | (with_reducible refine gate_intro (fun h => ?_) (fun h => ?_) <;> simp only [h, go_sem, reduceIte, Nat.reduceLT, Nat.reduceEqDiff, Nat.reduceAdd, Nat.reduceMul, Nat.reduceSub, Nat.reduceLeDiff, reduceCtorEq, s1, c1, tp_frz, tp_fz] <;> (try simp only [decide_eq_true_eq, decide_eq_false_iff_not, Bool.not_true] at h))
    | (with_reducible refine chk_in (by kernel_rfl) ?_)
    | (with_reducible refine And.intro (And.intro (by omega) (by omega)) ?_)
    | (with_reducible refine And.intro (by omega) ?_)
    | (refine new_call rfl tl h1 (memOf_free rfl) (fun t ht => ?_))
    | (refine events_call rfl _ _ _ rfl (by assumption) (by omega) (memOf_free rfl) (fun l c t1 ht1 hc hl => ?_))
    | (refine rng_call rfl _ _ _ rfl (by assumption) (by omega) rfl (fun v t2 ht2 hv0 hv1 => ?_))
    | (refine knownP_call rfl l c _ rfl rfl (by omega) (memOf_free rfl) ?_)
    | (refine knownR_call rfl l c _ rfl rfl (by omega) (memOf_free rfl) ?_)
    | (refine canP_call rfl (l.take v.toNat) (c.take v.toNat) (by simp only [go_sem, reduceIte, Nat.reduceLT, Nat.reduceEqDiff, Nat.reduceAdd, Nat.reduceMul, Nat.reduceSub, Nat.reduceLeDiff, reduceCtorEq]) (by simp only [go_sem, reduceIte, Nat.reduceLT, Nat.reduceEqDiff, Nat.reduceAdd, Nat.reduceMul, Nat.reduceSub, Nat.reduceLeDiff, reduceCtorEq]) (by simp; omega) (memOf_free rfl) ?_)
    | (refine samei_call rfl _ _ rfl rfl (known_len _ _ _ (by omega)) rfl ?_)
    | (refine true_call rfl rfl ?_)
    | (rw [get_in]; rotate_left; omega; simp only [go_sem, reduceIte, Nat.reduceLT, Nat.reduceEqDiff, Nat.reduceAdd, Nat.reduceMul, Nat.reduceSub, Nat.reduceLeDiff, reduceCtorEq, s1, c1, tp_frz, tp_fz])
    | fail)
  all_goals (have e : knownR l c v = canR (l.take v.toNat) (c.take v.toNat) := by (unfold knownR; rw [if_neg (by omega), if_neg (by omega)]))
  all_goals first | rfl | (exfalso; simp [e] at h; done)
end Go.Proofs.R1
