/- entry.Fold and the reference's. -/
import Derived.Test.YtjhhmkkndgocfaaCDelT
import Derived.Test.YtjhhmkkndgocfaaCR1M
set_option linter.unusedVariables false
set_option linter.unusedSimpArgs false
set_option maxRecDepth 8000
set_option maxHeartbeats 16000000
namespace Go.Proofs.R1
open Go Go.Abs

theorem fo_ok : CallOk Try.prog 26 foC := by
  refine ok_of_body_own 60 3 Try.func26 rfl (by decide) Try.ntmps26 (by intro a h; exact ⟨rfl, rfl⟩) (by decide) (by rintro _ a r _ rfl; exact plain3 _ _ _) ?_
  rintro ⟨(l : List EE), d, u⟩ hl
  simp only [foC] at hl ⊢
  simp only [initE, initMm, List.length_cons, List.length_nil, Nat.reduceAdd]
  have s1 : dlC.srt = none := rfl
  have c1 : dlC.clean = true := rfl
  have s2 : eecC.srt = none := rfl
  have c2 : eecC.clean = true := rfl
  have s3 : apC.srt = none := rfl
  have c3 : apC.clean = true := rfl
  have hK : KOk Try.prog (kOf [(44, dlC), (14, eecC), (22, apC), (56, idtC)]) := kOk_cons dlP_ok (kOk_cons eeCan_ok (kOk_cons ap_ok (kOk_cons idt_ok kOk_nil)))
  cases hdl : dlV d with
  | false =>
    repeat' (first
    | (with_reducible refine aw_seq ?_)
    | (with_reducible refine kont_in ?_; simp only [go_sem, reduceIte, Nat.reduceLT, Nat.reduceEqDiff, Nat.reduceAdd, Nat.reduceMul, Nat.reduceSub, Nat.reduceLeDiff, reduceCtorEq, s1, c1, s2, c2, s3, c3, hdl])
    | (with_reducible refine dKont_in ?_; simp only [go_sem, reduceIte, Nat.reduceLT, Nat.reduceEqDiff, Nat.reduceAdd, Nat.reduceMul, Nat.reduceSub, Nat.reduceLeDiff, reduceCtorEq, s1, c1, s2, c2, s3, c3, hdl])
    | (with_reducible refine aw_drw (by kernel_rfl) hK kDet_nil ?_; simp only [go_sem, reduceIte, Nat.reduceLT, Nat.reduceEqDiff, Nat.reduceAdd, Nat.reduceMul, Nat.reduceSub, Nat.reduceLeDiff, reduceCtorEq, s1, c1, s2, c2, s3, c3, hdl])
    | (with_reducible refine aw_reg hK ?_; simp only [go_sem, reduceIte, Nat.reduceLT, Nat.reduceEqDiff, Nat.reduceAdd, Nat.reduceMul, Nat.reduceSub, Nat.reduceLeDiff, reduceCtorEq, s1, c1, s2, c2, s3, c3, hdl])
    | (with_reducible refine aw_if ?_; simp only [go_sem, reduceIte, Nat.reduceLT, Nat.reduceEqDiff, Nat.reduceAdd, Nat.reduceMul, Nat.reduceSub, Nat.reduceLeDiff, reduceCtorEq, s1, c1, s2, c2, s3, c3, hdl])
    | (with_reducible refine aw_block ?_)
    | (with_reducible refine aw_ret ?_; (try simp only [thenQ, blockQ]); refine aw_ret' ?_; simp only [go_sem, reduceIte, Nat.reduceLT, Nat.reduceEqDiff, Nat.reduceAdd, Nat.reduceMul, Nat.reduceSub, Nat.reduceLeDiff, reduceCtorEq, s1, c1, s2, c2, s3, c3, hdl])
    | (with_reducible refine aw_exit ?_; simp only [thenQ, blockQ, reduceIte, Nat.reduceEqDiff])
    | (with_reducible refine aw_skip ?_; simp only [thenQ, blockQ])
    | (with_reducible refine gate_intro (fun h => ?_) (fun h => ?_) <;> simp only [h, go_sem, reduceIte, Nat.reduceLT, Nat.reduceEqDiff, Nat.reduceAdd, Nat.reduceMul, Nat.reduceSub, Nat.reduceLeDiff, reduceCtorEq, s1, c1, s2, c2, s3, c3, hdl] <;> (try simp only [decide_eq_true_eq, decide_eq_false_iff_not, Bool.not_true] at h))
    | (with_reducible refine chk_in (by kernel_rfl) ?_)
    | (with_reducible refine And.intro (And.intro (by omega) (by omega)) ?_)
    | (with_reducible refine And.intro (by omega) ?_)
    | (refine dlP_call rfl d rfl ?_)
    | (rw [get_in]; rotate_left; omega; simp only [go_sem, reduceIte, Nat.reduceLT, Nat.reduceEqDiff, Nat.reduceAdd, Nat.reduceMul, Nat.reduceSub, Nat.reduceLeDiff, reduceCtorEq, s1, c1, s2, c2, s3, c3, hdl])
    | fail)
    refine ⟨_, rfl, ?_, rfl⟩
    rw [foldR, if_pos hdl]; exact .z _ _ _ (.z _ _ _ (.refl _))
  | true =>
  have hes := evR_len l
  have hev : (evR l).2 = 0 → (evR l).1 = evL l := fun h => by
    unfold evR at h ⊢
    split at h
    · cases h
    · rename_i hh; rw [if_neg hh]
  by_cases hc : (evR l).2 = 0
  case neg =>
    have hb : ((evR l).2 != 0) = true := by simpa using hc
    repeat' (first
    | (with_reducible refine aw_seq ?_)
    | (with_reducible refine kont_in ?_; simp only [go_sem, reduceIte, Nat.reduceLT, Nat.reduceEqDiff, Nat.reduceAdd, Nat.reduceMul, Nat.reduceSub, Nat.reduceLeDiff, reduceCtorEq, s1, c1, s2, c2, s3, c3, hdl, hb])
    | (with_reducible refine dKont_in ?_; simp only [go_sem, reduceIte, Nat.reduceLT, Nat.reduceEqDiff, Nat.reduceAdd, Nat.reduceMul, Nat.reduceSub, Nat.reduceLeDiff, reduceCtorEq, s1, c1, s2, c2, s3, c3, hdl, hb])
    | (with_reducible refine aw_drw (by kernel_rfl) hK kDet_nil ?_; simp only [go_sem, reduceIte, Nat.reduceLT, Nat.reduceEqDiff, Nat.reduceAdd, Nat.reduceMul, Nat.reduceSub, Nat.reduceLeDiff, reduceCtorEq, s1, c1, s2, c2, s3, c3, hdl, hb])
    | (with_reducible refine aw_reg hK ?_; simp only [go_sem, reduceIte, Nat.reduceLT, Nat.reduceEqDiff, Nat.reduceAdd, Nat.reduceMul, Nat.reduceSub, Nat.reduceLeDiff, reduceCtorEq, s1, c1, s2, c2, s3, c3, hdl, hb])
    | (with_reducible refine aw_if ?_; simp only [go_sem, reduceIte, Nat.reduceLT, Nat.reduceEqDiff, Nat.reduceAdd, Nat.reduceMul, Nat.reduceSub, Nat.reduceLeDiff, reduceCtorEq, s1, c1, s2, c2, s3, c3, hdl, hb])
    | (with_reducible refine aw_block ?_)
    | (with_reducible refine aw_ret ?_; (try simp only [thenQ, blockQ]); refine aw_ret' ?_; simp only [go_sem, reduceIte, Nat.reduceLT, Nat.reduceEqDiff, Nat.reduceAdd, Nat.reduceMul, Nat.reduceSub, Nat.reduceLeDiff, reduceCtorEq, s1, c1, s2, c2, s3, c3, hdl, hb])
    | (with_reducible refine aw_exit ?_; simp only [thenQ, blockQ, reduceIte, Nat.reduceEqDiff])
    | (with_reducible refine aw_skip ?_; simp only [thenQ, blockQ])
    | (with_reducible refine gate_intro (fun h => ?_) (fun h => ?_) <;> simp only [h, go_sem, reduceIte, Nat.reduceLT, Nat.reduceEqDiff, Nat.reduceAdd, Nat.reduceMul, Nat.reduceSub, Nat.reduceLeDiff, reduceCtorEq, s1, c1, s2, c2, s3, c3, hdl, hb] <;> (try simp only [decide_eq_true_eq, decide_eq_false_iff_not, Bool.not_true] at h))
    | (with_reducible refine chk_in (by kernel_rfl) ?_)
    | (with_reducible refine And.intro (And.intro (by omega) (by omega)) ?_)
    | (with_reducible refine And.intro (by omega) ?_)
    | (refine dlP_call rfl d rfl ?_)
    | (refine can_call rfl l rfl hl (memOf_free rfl) ?_)
    | (rw [get_in]; rotate_left; omega; simp only [go_sem, reduceIte, Nat.reduceLT, Nat.reduceEqDiff, Nat.reduceAdd, Nat.reduceMul, Nat.reduceSub, Nat.reduceLeDiff, reduceCtorEq, s1, c1, s2, c2, s3, c3, hdl, hb])
    | fail)
    refine ⟨_, rfl, ?_, rfl⟩
    rw [foldR, if_neg (by simp [hdl]), if_pos hc]; exact .z _ _ _ (.z _ _ _ (.refl _))
  have hb : ((0 : Int) != 0) = false := rfl
  have hasc : (evR l).1.Pairwise fun a b => cmpS a.1 b.1 < 0 := by rw [hev hc]; exact evL_asc l
  have hfo : foldR l d u = ((foldL d ((evR l).1.filter fun e => decide (e.1.1 ≤ u))).1, (foldL d ((evR l).1.filter fun e => decide (e.1.1 ≤ u))).2, 0) := by
    rw [foldR, if_neg (by simp [hdl]), if_neg (by simp [hc])]
  rw [hfo]
  clear hev hfo
  generalize he : (evR l).1 = es at *
  generalize hcc : (evR l).2 = cc at *
  subst hc
  repeat' (first
    | (with_reducible refine aw_seq ?_)
    | (with_reducible refine kont_in ?_; simp only [go_sem, reduceIte, Nat.reduceLT, Nat.reduceEqDiff, Nat.reduceAdd, Nat.reduceMul, Nat.reduceSub, Nat.reduceLeDiff, reduceCtorEq, s1, c1, s2, c2, s3, c3, hdl, hb, he, hcc])
    | (with_reducible refine dKont_in ?_; simp only [go_sem, reduceIte, Nat.reduceLT, Nat.reduceEqDiff, Nat.reduceAdd, Nat.reduceMul, Nat.reduceSub, Nat.reduceLeDiff, reduceCtorEq, s1, c1, s2, c2, s3, c3, hdl, hb, he, hcc])
    | (with_reducible refine aw_drw (by kernel_rfl) hK kDet_nil ?_; simp only [go_sem, reduceIte, Nat.reduceLT, Nat.reduceEqDiff, Nat.reduceAdd, Nat.reduceMul, Nat.reduceSub, Nat.reduceLeDiff, reduceCtorEq, s1, c1, s2, c2, s3, c3, hdl, hb, he, hcc])
    | (with_reducible refine aw_reg hK ?_; simp only [go_sem, reduceIte, Nat.reduceLT, Nat.reduceEqDiff, Nat.reduceAdd, Nat.reduceMul, Nat.reduceSub, Nat.reduceLeDiff, reduceCtorEq, s1, c1, s2, c2, s3, c3, hdl, hb, he, hcc])
    | (with_reducible refine aw_if ?_; simp only [go_sem, reduceIte, Nat.reduceLT, Nat.reduceEqDiff, Nat.reduceAdd, Nat.reduceMul, Nat.reduceSub, Nat.reduceLeDiff, reduceCtorEq, s1, c1, s2, c2, s3, c3, hdl, hb, he, hcc])
    | (with_reducible refine aw_block ?_)
    | (with_reducible refine aw_ret ?_; (try simp only [thenQ, blockQ]); refine aw_ret' ?_; simp only [go_sem, reduceIte, Nat.reduceLT, Nat.reduceEqDiff, Nat.reduceAdd, Nat.reduceMul, Nat.reduceSub, Nat.reduceLeDiff, reduceCtorEq, s1, c1, s2, c2, s3, c3, hdl, hb, he, hcc])
    | (with_reducible refine aw_exit ?_; simp only [thenQ, blockQ, reduceIte, Nat.reduceEqDiff])
    | (with_reducible refine aw_skip ?_; simp only [thenQ, blockQ])
    | (with_reducible refine gate_intro (fun h => ?_) (fun h => ?_) <;> simp only [h, go_sem, reduceIte, Nat.reduceLT, Nat.reduceEqDiff, Nat.reduceAdd, Nat.reduceMul, Nat.reduceSub, Nat.reduceLeDiff, reduceCtorEq, s1, c1, s2, c2, s3, c3, hdl, hb, he, hcc] <;> (try simp only [decide_eq_true_eq, decide_eq_false_iff_not, Bool.not_true] at h))
    | (with_reducible refine chk_in (by kernel_rfl) ?_)
    | (with_reducible refine And.intro (And.intro (by omega) (by omega)) ?_)
    | (with_reducible refine And.intro (by omega) ?_)
    | (refine dlP_call rfl d rfl ?_)
    | (refine can_call rfl l rfl hl (memOf_free rfl) ?_)
    | (rw [get_in]; rotate_left; omega; simp only [go_sem, reduceIte, Nat.reduceLT, Nat.reduceEqDiff, Nat.reduceAdd, Nat.reduceMul, Nat.reduceSub, Nat.reduceLeDiff, reduceCtorEq, s1, c1, s2, c2, s3, c3, hdl, hb, he, hcc])
    | fail)
  refine aw_nil 11 400 4 rfl rfl ?_
  refine aw_nil 12 401 3 rfl rfl ?_
  refine aw_rounds (α := Nat) (fun i => ⟨envOf [(30, i64 i), (29, i64 es.length), (28, .row 101), (11, .row 100), (12, .row 102), (4, .box 103 0), (2, i64 u)], memOf [(101, .row 8 (eeR es) true), (100, .row 4 (erR (foldL d (es.take i)).1) true), (102, .row 3 (rfR (foldL d (es.take i)).2) true), (103, .cells (dlD d))], 200⟩)
    (fun i => i ≤ es.length ∧ ∀ k e, k < i → es[k]? = some e → e.1.1 ≤ u) (fun i => es.length - i) 0 ⟨Nat.zero_le _, fun k e h => by omega⟩ (weak_in [(101, 35), (100, 400), (102, 401), (103, 3)] (by repeat' (first | trivial | constructor | rfl)) (by repeat' (first | trivial | constructor | rfl)) (by rfl) (by rfl) (by rfl)) ?_
  rintro i ⟨hi, hI⟩
  have hfin : ∀ {R S : List (List D)}, (∀ e, es[i]? = some e → u < e.1.1) → R = erR (foldL d (es.take i)).1 → S = rfR (foldL d (es.take i)).2 →
      ownP (fun r => r = ⟨[.own 4 (erR (foldL d (es.filter fun e => decide (e.1.1 ≤ u))).1), .own 3 (rfR (foldL d (es.filter fun e => decide (e.1.1 ≤ u))).2), .d (i64 0)], []⟩) ⟨[.own 4 R, .own 3 S, .d (i64 0)], []⟩ := fun hat h1 h2 =>
    ⟨_, rfl, by rw [h1, h2, filter_pre hasc hI hat hi]; exact .refl _, rfl⟩
  have hva := foldL_va d (es.take i)
  have hol := (vaL_iff.1 hva).1
  have hrl := foldL_rf d (es.take i)
  rw [List.length_take] at hrl
  cases hx : es[i]? with
  | none =>
    have hge : es.length ≤ i := by simpa using hx
    have hc : decide ((i : Int) < (es.length : Int)) = false := by simp <;> omega
    repeat' (first
    | (with_reducible refine aw_seq ?_)
    | (with_reducible refine kont_in ?_; simp only [go_sem, reduceIte, Nat.reduceLT, Nat.reduceEqDiff, Nat.reduceAdd, Nat.reduceMul, Nat.reduceSub, Nat.reduceLeDiff, reduceCtorEq, hc, s1, c1, s2, c2, s3, c3])
    | (with_reducible refine dKont_in ?_; simp only [go_sem, reduceIte, Nat.reduceLT, Nat.reduceEqDiff, Nat.reduceAdd, Nat.reduceMul, Nat.reduceSub, Nat.reduceLeDiff, reduceCtorEq, hc, s1, c1, s2, c2, s3, c3])
    | (with_reducible refine aw_drw (by kernel_rfl) hK kDet_nil ?_; simp only [go_sem, reduceIte, Nat.reduceLT, Nat.reduceEqDiff, Nat.reduceAdd, Nat.reduceMul, Nat.reduceSub, Nat.reduceLeDiff, reduceCtorEq, hc, s1, c1, s2, c2, s3, c3])
    | (with_reducible refine aw_reg hK ?_; simp only [go_sem, reduceIte, Nat.reduceLT, Nat.reduceEqDiff, Nat.reduceAdd, Nat.reduceMul, Nat.reduceSub, Nat.reduceLeDiff, reduceCtorEq, hc, s1, c1, s2, c2, s3, c3])
    | (with_reducible refine aw_if ?_; simp only [go_sem, reduceIte, Nat.reduceLT, Nat.reduceEqDiff, Nat.reduceAdd, Nat.reduceMul, Nat.reduceSub, Nat.reduceLeDiff, reduceCtorEq, hc, s1, c1, s2, c2, s3, c3])
    | (with_reducible refine aw_block ?_)
    | (with_reducible refine aw_ret ?_; (try simp only [thenQ, blockQ]); refine aw_ret' ?_; simp only [go_sem, reduceIte, Nat.reduceLT, Nat.reduceEqDiff, Nat.reduceAdd, Nat.reduceMul, Nat.reduceSub, Nat.reduceLeDiff, reduceCtorEq, hc, s1, c1, s2, c2, s3, c3])
    | (with_reducible refine aw_exit ?_; simp only [thenQ, blockQ, reduceIte, Nat.reduceEqDiff])
    | (with_reducible refine aw_skip ?_; simp only [thenQ, blockQ])
    | (with_reducible refine gate_intro (fun h => ?_) (fun h => ?_) <;> simp only [h, go_sem, reduceIte, Nat.reduceLT, Nat.reduceEqDiff, Nat.reduceAdd, Nat.reduceMul, Nat.reduceSub, Nat.reduceLeDiff, reduceCtorEq, hc, s1, c1, s2, c2, s3, c3] <;> (try simp only [decide_eq_true_eq, decide_eq_false_iff_not, Bool.not_true] at h))
    | (with_reducible refine chk_in (by kernel_rfl) ?_)
    | (with_reducible refine And.intro (And.intro (by omega) (by omega)) ?_)
    | (with_reducible refine And.intro (by omega) ?_)
    | (rw [get_in]; rotate_left; omega; simp only [go_sem, reduceIte, Nat.reduceLT, Nat.reduceEqDiff, Nat.reduceAdd, Nat.reduceMul, Nat.reduceSub, Nat.reduceLeDiff, reduceCtorEq, hc, s1, c1, s2, c2, s3, c3])
    | fail)
    exact hfin (fun e h => by rw [hx] at h; cases h) rfl rfl
  | some e =>
    have hlt : i < es.length := (List.getElem?_eq_some_iff.1 hx).1
    have hc : decide ((i : Int) < (es.length : Int)) = true := by simp <;> omega
    have hw := wrS (i := i) (by omega)
    have ht : es.take (i + 1) = es.take i ++ [e] := by rw [List.take_add_one, hx]; rfl
    have hst : foldL d (es.take (i + 1)) = stepR d (foldL d (es.take i)) e := by rw [ht, foldL_app]
    cases ht : decide (e.1.1 > u) with
    | true =>
      repeat' (first
    | (with_reducible refine aw_seq ?_)
    | (with_reducible refine kont_in ?_; simp only [go_sem, reduceIte, Nat.reduceLT, Nat.reduceEqDiff, Nat.reduceAdd, Nat.reduceMul, Nat.reduceSub, Nat.reduceLeDiff, reduceCtorEq, hc, hx, ht, eeD_g0, s1, c1, s2, c2, s3, c3])
    | (with_reducible refine dKont_in ?_; simp only [go_sem, reduceIte, Nat.reduceLT, Nat.reduceEqDiff, Nat.reduceAdd, Nat.reduceMul, Nat.reduceSub, Nat.reduceLeDiff, reduceCtorEq, hc, hx, ht, eeD_g0, s1, c1, s2, c2, s3, c3])
    | (with_reducible refine aw_drw (by kernel_rfl) hK kDet_nil ?_; simp only [go_sem, reduceIte, Nat.reduceLT, Nat.reduceEqDiff, Nat.reduceAdd, Nat.reduceMul, Nat.reduceSub, Nat.reduceLeDiff, reduceCtorEq, hc, hx, ht, eeD_g0, s1, c1, s2, c2, s3, c3])
    | (with_reducible refine aw_reg hK ?_; simp only [go_sem, reduceIte, Nat.reduceLT, Nat.reduceEqDiff, Nat.reduceAdd, Nat.reduceMul, Nat.reduceSub, Nat.reduceLeDiff, reduceCtorEq, hc, hx, ht, eeD_g0, s1, c1, s2, c2, s3, c3])
    | (with_reducible refine aw_if ?_; simp only [go_sem, reduceIte, Nat.reduceLT, Nat.reduceEqDiff, Nat.reduceAdd, Nat.reduceMul, Nat.reduceSub, Nat.reduceLeDiff, reduceCtorEq, hc, hx, ht, eeD_g0, s1, c1, s2, c2, s3, c3])
    | (with_reducible refine aw_block ?_)
    | (with_reducible refine aw_ret ?_; (try simp only [thenQ, blockQ]); refine aw_ret' ?_; simp only [go_sem, reduceIte, Nat.reduceLT, Nat.reduceEqDiff, Nat.reduceAdd, Nat.reduceMul, Nat.reduceSub, Nat.reduceLeDiff, reduceCtorEq, hc, hx, ht, eeD_g0, s1, c1, s2, c2, s3, c3])
    | (with_reducible refine aw_exit ?_; simp only [thenQ, blockQ, reduceIte, Nat.reduceEqDiff])
    | (with_reducible refine aw_skip ?_; simp only [thenQ, blockQ])
    | (with_reducible refine gate_intro (fun h => ?_) (fun h => ?_) <;> simp only [h, go_sem, reduceIte, Nat.reduceLT, Nat.reduceEqDiff, Nat.reduceAdd, Nat.reduceMul, Nat.reduceSub, Nat.reduceLeDiff, reduceCtorEq, hc, hx, ht, eeD_g0, s1, c1, s2, c2, s3, c3] <;> (try simp only [decide_eq_true_eq, decide_eq_false_iff_not, Bool.not_true] at h))
    | (with_reducible refine chk_in (by kernel_rfl) ?_)
    | (with_reducible refine And.intro (And.intro (by omega) (by omega)) ?_)
    | (with_reducible refine And.intro (by omega) ?_)
    | (rw [get_in]; rotate_left; omega; simp only [go_sem, reduceIte, Nat.reduceLT, Nat.reduceEqDiff, Nat.reduceAdd, Nat.reduceMul, Nat.reduceSub, Nat.reduceLeDiff, reduceCtorEq, hc, hx, ht, eeD_g0, s1, c1, s2, c2, s3, c3])
    | fail)
      exact hfin (fun e' h => by rw [hx] at h; cases h; simpa using ht) rfl rfl
    | false =>
      cases hap : (applyR (foldL d (es.take i)).1 d e).2 != 0 with
      | true =>
        repeat' (first
    | (with_reducible refine aw_seq ?_)
    | (with_reducible refine kont_in ?_; simp only [go_sem, reduceIte, Nat.reduceLT, Nat.reduceEqDiff, Nat.reduceAdd, Nat.reduceMul, Nat.reduceSub, Nat.reduceLeDiff, reduceCtorEq, hc, hx, hw, ht, eeD_g0, rfR_app1, hap, s1, c1, s2, c2, s3, c3])
    | (with_reducible refine dKont_in ?_; simp only [go_sem, reduceIte, Nat.reduceLT, Nat.reduceEqDiff, Nat.reduceAdd, Nat.reduceMul, Nat.reduceSub, Nat.reduceLeDiff, reduceCtorEq, hc, hx, hw, ht, eeD_g0, rfR_app1, hap, s1, c1, s2, c2, s3, c3])
    | (with_reducible refine aw_drw (by kernel_rfl) hK kDet_nil ?_; simp only [go_sem, reduceIte, Nat.reduceLT, Nat.reduceEqDiff, Nat.reduceAdd, Nat.reduceMul, Nat.reduceSub, Nat.reduceLeDiff, reduceCtorEq, hc, hx, hw, ht, eeD_g0, rfR_app1, hap, s1, c1, s2, c2, s3, c3])
    | (with_reducible refine aw_reg hK ?_; simp only [go_sem, reduceIte, Nat.reduceLT, Nat.reduceEqDiff, Nat.reduceAdd, Nat.reduceMul, Nat.reduceSub, Nat.reduceLeDiff, reduceCtorEq, hc, hx, hw, ht, eeD_g0, rfR_app1, hap, s1, c1, s2, c2, s3, c3])
    | (with_reducible refine aw_if ?_; simp only [go_sem, reduceIte, Nat.reduceLT, Nat.reduceEqDiff, Nat.reduceAdd, Nat.reduceMul, Nat.reduceSub, Nat.reduceLeDiff, reduceCtorEq, hc, hx, hw, ht, eeD_g0, rfR_app1, hap, s1, c1, s2, c2, s3, c3])
    | (with_reducible refine aw_block ?_)
    | (with_reducible refine aw_ret ?_; (try simp only [thenQ, blockQ]); refine aw_ret' ?_; simp only [go_sem, reduceIte, Nat.reduceLT, Nat.reduceEqDiff, Nat.reduceAdd, Nat.reduceMul, Nat.reduceSub, Nat.reduceLeDiff, reduceCtorEq, hc, hx, hw, ht, eeD_g0, rfR_app1, hap, s1, c1, s2, c2, s3, c3])
    | (with_reducible refine aw_exit ?_; simp only [thenQ, blockQ, reduceIte, Nat.reduceEqDiff])
    | (with_reducible refine aw_skip ?_; simp only [thenQ, blockQ])
    | (with_reducible refine gate_intro (fun h => ?_) (fun h => ?_) <;> simp only [h, go_sem, reduceIte, Nat.reduceLT, Nat.reduceEqDiff, Nat.reduceAdd, Nat.reduceMul, Nat.reduceSub, Nat.reduceLeDiff, reduceCtorEq, hc, hx, hw, ht, eeD_g0, rfR_app1, hap, s1, c1, s2, c2, s3, c3] <;> (try simp only [decide_eq_true_eq, decide_eq_false_iff_not, Bool.not_true] at h))
    | (with_reducible refine chk_in (by kernel_rfl) ?_)
    | (with_reducible refine And.intro (And.intro (by omega) (by omega)) ?_)
    | (with_reducible refine And.intro (by omega) ?_)
    | (refine ap_call rfl (foldL d (es.take i)).1 d e rfl (by omega) (memOf_free rfl) ?_)
    | (refine idt_call rfl e.1 rfl ?_)
    | (rw [get_in]; rotate_left; omega; simp only [go_sem, reduceIte, Nat.reduceLT, Nat.reduceEqDiff, Nat.reduceAdd, Nat.reduceMul, Nat.reduceSub, Nat.reduceLeDiff, reduceCtorEq, hc, hx, hw, ht, eeD_g0, rfR_app1, hap, s1, c1, s2, c2, s3, c3])
    | fail)
        refine ⟨i + 1, ?_, ⟨hlt, all_next (P := fun e : EE => e.1.1 ≤ u) hI hx (by simpa using ht)⟩, by omega⟩
        rw [hst, stepR, if_neg (by simpa using hap)]
        exact weak_in [(100, 100), (101, 101), (102, _), (103, _)] (by repeat' (first | trivial | constructor | rfl)) (by repeat' (first | trivial | constructor | rfl)) (by rfl) (by rfl) (by rfl)
      | false =>
        repeat' (first
    | (with_reducible refine aw_seq ?_)
    | (with_reducible refine kont_in ?_; simp only [go_sem, reduceIte, Nat.reduceLT, Nat.reduceEqDiff, Nat.reduceAdd, Nat.reduceMul, Nat.reduceSub, Nat.reduceLeDiff, reduceCtorEq, hc, hx, hw, ht, eeD_g0, rfR_app1, hap, s1, c1, s2, c2, s3, c3])
    | (with_reducible refine dKont_in ?_; simp only [go_sem, reduceIte, Nat.reduceLT, Nat.reduceEqDiff, Nat.reduceAdd, Nat.reduceMul, Nat.reduceSub, Nat.reduceLeDiff, reduceCtorEq, hc, hx, hw, ht, eeD_g0, rfR_app1, hap, s1, c1, s2, c2, s3, c3])
    | (with_reducible refine aw_drw (by kernel_rfl) hK kDet_nil ?_; simp only [go_sem, reduceIte, Nat.reduceLT, Nat.reduceEqDiff, Nat.reduceAdd, Nat.reduceMul, Nat.reduceSub, Nat.reduceLeDiff, reduceCtorEq, hc, hx, hw, ht, eeD_g0, rfR_app1, hap, s1, c1, s2, c2, s3, c3])
    | (with_reducible refine aw_reg hK ?_; simp only [go_sem, reduceIte, Nat.reduceLT, Nat.reduceEqDiff, Nat.reduceAdd, Nat.reduceMul, Nat.reduceSub, Nat.reduceLeDiff, reduceCtorEq, hc, hx, hw, ht, eeD_g0, rfR_app1, hap, s1, c1, s2, c2, s3, c3])
    | (with_reducible refine aw_if ?_; simp only [go_sem, reduceIte, Nat.reduceLT, Nat.reduceEqDiff, Nat.reduceAdd, Nat.reduceMul, Nat.reduceSub, Nat.reduceLeDiff, reduceCtorEq, hc, hx, hw, ht, eeD_g0, rfR_app1, hap, s1, c1, s2, c2, s3, c3])
    | (with_reducible refine aw_block ?_)
    | (with_reducible refine aw_ret ?_; (try simp only [thenQ, blockQ]); refine aw_ret' ?_; simp only [go_sem, reduceIte, Nat.reduceLT, Nat.reduceEqDiff, Nat.reduceAdd, Nat.reduceMul, Nat.reduceSub, Nat.reduceLeDiff, reduceCtorEq, hc, hx, hw, ht, eeD_g0, rfR_app1, hap, s1, c1, s2, c2, s3, c3])
    | (with_reducible refine aw_exit ?_; simp only [thenQ, blockQ, reduceIte, Nat.reduceEqDiff])
    | (with_reducible refine aw_skip ?_; simp only [thenQ, blockQ])
    | (with_reducible refine gate_intro (fun h => ?_) (fun h => ?_) <;> simp only [h, go_sem, reduceIte, Nat.reduceLT, Nat.reduceEqDiff, Nat.reduceAdd, Nat.reduceMul, Nat.reduceSub, Nat.reduceLeDiff, reduceCtorEq, hc, hx, hw, ht, eeD_g0, rfR_app1, hap, s1, c1, s2, c2, s3, c3] <;> (try simp only [decide_eq_true_eq, decide_eq_false_iff_not, Bool.not_true] at h))
    | (with_reducible refine chk_in (by kernel_rfl) ?_)
    | (with_reducible refine And.intro (And.intro (by omega) (by omega)) ?_)
    | (with_reducible refine And.intro (by omega) ?_)
    | (refine ap_call rfl (foldL d (es.take i)).1 d e rfl (by omega) (memOf_free rfl) ?_)
    | (rw [get_in]; rotate_left; omega; simp only [go_sem, reduceIte, Nat.reduceLT, Nat.reduceEqDiff, Nat.reduceAdd, Nat.reduceMul, Nat.reduceSub, Nat.reduceLeDiff, reduceCtorEq, hc, hx, hw, ht, eeD_g0, rfR_app1, hap, s1, c1, s2, c2, s3, c3])
    | fail)
        refine ⟨i + 1, ?_, ⟨hlt, all_next (P := fun e : EE => e.1.1 ≤ u) hI hx (by simpa using ht)⟩, by omega⟩
        rw [hst, stepR, if_pos (by simpa using hap)]
        exact weak_in [(101, 101), (100, _), (102, 102), (103, _)] (by repeat' (first | trivial | constructor | rfl)) (by repeat' (first | trivial | constructor | rfl)) (by rfl) (by rfl) (by rfl)
theorem rfo_ok : CallOk Try.prog 20 foC := by
  refine ok_of_body_own 74 3 Try.func20 rfl (by decide) Try.ntmps20 (by intro a h; exact ⟨rfl, rfl⟩) (by decide) (by rintro _ a r _ rfl; exact plain3 _ _ _) ?_
  rintro ⟨(l : List EE), d, u⟩ hl
  simp only [foC] at hl ⊢
  simp only [initE, initMm, List.length_cons, List.length_nil, Nat.reduceAdd]
  have s1 : dlC.srt = none := rfl
  have c1 : dlC.clean = true := rfl
  have s2 : eecC.srt = none := rfl
  have c2 : eecC.clean = true := rfl
  have s3 : apC.srt = none := rfl
  have c3 : apC.clean = true := rfl
  have hK : KOk Try.prog (kOf [(42, dlC), (15, eecC), (23, apC)]) := kOk_cons dlR_ok (kOk_cons eeRef_ok (kOk_cons rap_ok kOk_nil))
  have hD : KDet (kOf [(42, dlC), (15, eecC), (23, apC)]) := kDet_cons (fun _ _ => ⟨_, rfl, by simp, fun _ h => h⟩) (kDet_cons (fun _ _ => ⟨_, rfl, by simp, fun _ h => h⟩) (kDet_cons (fun _ _ => ⟨_, rfl, by simp, fun _ h => h⟩) kDet_nil))
  cases hdl : dlV d with
  | false =>
    repeat' (first
    | (with_reducible refine aw_seq ?_)
    | (with_reducible refine kont_in ?_; simp only [go_sem, reduceIte, Nat.reduceLT, Nat.reduceEqDiff, Nat.reduceAdd, Nat.reduceMul, Nat.reduceSub, Nat.reduceLeDiff, reduceCtorEq, s1, c1, s2, c2, s3, c3, hdl])
    | (with_reducible refine dKont_in ?_; simp only [go_sem, reduceIte, Nat.reduceLT, Nat.reduceEqDiff, Nat.reduceAdd, Nat.reduceMul, Nat.reduceSub, Nat.reduceLeDiff, reduceCtorEq, s1, c1, s2, c2, s3, c3, hdl])
    | (with_reducible refine aw_drw (by kernel_rfl) hK hD ?_; simp only [go_sem, reduceIte, Nat.reduceLT, Nat.reduceEqDiff, Nat.reduceAdd, Nat.reduceMul, Nat.reduceSub, Nat.reduceLeDiff, reduceCtorEq, s1, c1, s2, c2, s3, c3, hdl])
    | (with_reducible refine aw_reg hK ?_; simp only [go_sem, reduceIte, Nat.reduceLT, Nat.reduceEqDiff, Nat.reduceAdd, Nat.reduceMul, Nat.reduceSub, Nat.reduceLeDiff, reduceCtorEq, s1, c1, s2, c2, s3, c3, hdl])
    | (with_reducible refine aw_if ?_; simp only [go_sem, reduceIte, Nat.reduceLT, Nat.reduceEqDiff, Nat.reduceAdd, Nat.reduceMul, Nat.reduceSub, Nat.reduceLeDiff, reduceCtorEq, s1, c1, s2, c2, s3, c3, hdl])
    | (with_reducible refine aw_block ?_)
    | (with_reducible refine aw_ret ?_; (try simp only [thenQ, blockQ]); refine aw_ret' ?_; simp only [go_sem, reduceIte, Nat.reduceLT, Nat.reduceEqDiff, Nat.reduceAdd, Nat.reduceMul, Nat.reduceSub, Nat.reduceLeDiff, reduceCtorEq, s1, c1, s2, c2, s3, c3, hdl])
    | (with_reducible refine aw_exit ?_; simp only [thenQ, blockQ, reduceIte, Nat.reduceEqDiff])
    | (with_reducible refine aw_skip ?_; simp only [thenQ, blockQ])
    | (with_reducible refine gate_intro (fun h => ?_) (fun h => ?_) <;> simp only [h, go_sem, reduceIte, Nat.reduceLT, Nat.reduceEqDiff, Nat.reduceAdd, Nat.reduceMul, Nat.reduceSub, Nat.reduceLeDiff, reduceCtorEq, s1, c1, s2, c2, s3, c3, hdl] <;> (try simp only [decide_eq_true_eq, decide_eq_false_iff_not, Bool.not_true] at h))
    | (with_reducible refine chk_in (by kernel_rfl) ?_)
    | (with_reducible refine And.intro (And.intro (by omega) (by omega)) ?_)
    | (with_reducible refine And.intro (by omega) ?_)
    | (refine dlR_call rfl d rfl ?_)
    | (rw [get_in]; rotate_left; omega; simp only [go_sem, reduceIte, Nat.reduceLT, Nat.reduceEqDiff, Nat.reduceAdd, Nat.reduceMul, Nat.reduceSub, Nat.reduceLeDiff, reduceCtorEq, s1, c1, s2, c2, s3, c3, hdl])
    | fail)
    refine ⟨_, rfl, ?_, rfl⟩
    rw [foldR, if_pos hdl]; exact .z _ _ _ (.z _ _ _ (.refl _))
  | true =>
  have hes := evR_len l
  by_cases hc : (evR l).2 = 0
  case neg =>
    have hb : ((evR l).2 != 0) = true := by simpa using hc
    repeat' (first
    | (with_reducible refine aw_seq ?_)
    | (with_reducible refine kont_in ?_; simp only [go_sem, reduceIte, Nat.reduceLT, Nat.reduceEqDiff, Nat.reduceAdd, Nat.reduceMul, Nat.reduceSub, Nat.reduceLeDiff, reduceCtorEq, s1, c1, s2, c2, s3, c3, hdl, hb])
    | (with_reducible refine dKont_in ?_; simp only [go_sem, reduceIte, Nat.reduceLT, Nat.reduceEqDiff, Nat.reduceAdd, Nat.reduceMul, Nat.reduceSub, Nat.reduceLeDiff, reduceCtorEq, s1, c1, s2, c2, s3, c3, hdl, hb])
    | (with_reducible refine aw_drw (by kernel_rfl) hK hD ?_; simp only [go_sem, reduceIte, Nat.reduceLT, Nat.reduceEqDiff, Nat.reduceAdd, Nat.reduceMul, Nat.reduceSub, Nat.reduceLeDiff, reduceCtorEq, s1, c1, s2, c2, s3, c3, hdl, hb])
    | (with_reducible refine aw_reg hK ?_; simp only [go_sem, reduceIte, Nat.reduceLT, Nat.reduceEqDiff, Nat.reduceAdd, Nat.reduceMul, Nat.reduceSub, Nat.reduceLeDiff, reduceCtorEq, s1, c1, s2, c2, s3, c3, hdl, hb])
    | (with_reducible refine aw_if ?_; simp only [go_sem, reduceIte, Nat.reduceLT, Nat.reduceEqDiff, Nat.reduceAdd, Nat.reduceMul, Nat.reduceSub, Nat.reduceLeDiff, reduceCtorEq, s1, c1, s2, c2, s3, c3, hdl, hb])
    | (with_reducible refine aw_block ?_)
    | (with_reducible refine aw_ret ?_; (try simp only [thenQ, blockQ]); refine aw_ret' ?_; simp only [go_sem, reduceIte, Nat.reduceLT, Nat.reduceEqDiff, Nat.reduceAdd, Nat.reduceMul, Nat.reduceSub, Nat.reduceLeDiff, reduceCtorEq, s1, c1, s2, c2, s3, c3, hdl, hb])
    | (with_reducible refine aw_exit ?_; simp only [thenQ, blockQ, reduceIte, Nat.reduceEqDiff])
    | (with_reducible refine aw_skip ?_; simp only [thenQ, blockQ])
    | (with_reducible refine gate_intro (fun h => ?_) (fun h => ?_) <;> simp only [h, go_sem, reduceIte, Nat.reduceLT, Nat.reduceEqDiff, Nat.reduceAdd, Nat.reduceMul, Nat.reduceSub, Nat.reduceLeDiff, reduceCtorEq, s1, c1, s2, c2, s3, c3, hdl, hb] <;> (try simp only [decide_eq_true_eq, decide_eq_false_iff_not, Bool.not_true] at h))
    | (with_reducible refine chk_in (by kernel_rfl) ?_)
    | (with_reducible refine And.intro (And.intro (by omega) (by omega)) ?_)
    | (with_reducible refine And.intro (by omega) ?_)
    | (refine dlR_call rfl d rfl ?_)
    | (refine can_call rfl l rfl hl (memOf_free rfl) ?_)
    | (rw [get_in]; rotate_left; omega; simp only [go_sem, reduceIte, Nat.reduceLT, Nat.reduceEqDiff, Nat.reduceAdd, Nat.reduceMul, Nat.reduceSub, Nat.reduceLeDiff, reduceCtorEq, s1, c1, s2, c2, s3, c3, hdl, hb])
    | fail)
    refine ⟨_, rfl, ?_, rfl⟩
    rw [foldR, if_neg (by simp [hdl]), if_pos hc]; exact .z _ _ _ (.z _ _ _ (.refl _))
  have hb : ((0 : Int) != 0) = false := rfl
  have hfo : foldR l d u = ((foldL d ((evR l).1.filter fun e => decide (e.1.1 ≤ u))).1, (foldL d ((evR l).1.filter fun e => decide (e.1.1 ≤ u))).2, 0) := by
    rw [foldR, if_neg (by simp [hdl]), if_neg (by simp [hc])]
  rw [hfo]
  clear hfo
  generalize he : (evR l).1 = es at *
  generalize hcc : (evR l).2 = cc at *
  subst hc
  repeat' (first
    | (with_reducible refine aw_seq ?_)
    | (with_reducible refine kont_in ?_; simp only [go_sem, reduceIte, Nat.reduceLT, Nat.reduceEqDiff, Nat.reduceAdd, Nat.reduceMul, Nat.reduceSub, Nat.reduceLeDiff, reduceCtorEq, s1, c1, s2, c2, s3, c3, hdl, hb, he, hcc])
    | (with_reducible refine dKont_in ?_; simp only [go_sem, reduceIte, Nat.reduceLT, Nat.reduceEqDiff, Nat.reduceAdd, Nat.reduceMul, Nat.reduceSub, Nat.reduceLeDiff, reduceCtorEq, s1, c1, s2, c2, s3, c3, hdl, hb, he, hcc])
    | (with_reducible refine aw_drw (by kernel_rfl) hK hD ?_; simp only [go_sem, reduceIte, Nat.reduceLT, Nat.reduceEqDiff, Nat.reduceAdd, Nat.reduceMul, Nat.reduceSub, Nat.reduceLeDiff, reduceCtorEq, s1, c1, s2, c2, s3, c3, hdl, hb, he, hcc])
    | (with_reducible refine aw_reg hK ?_; simp only [go_sem, reduceIte, Nat.reduceLT, Nat.reduceEqDiff, Nat.reduceAdd, Nat.reduceMul, Nat.reduceSub, Nat.reduceLeDiff, reduceCtorEq, s1, c1, s2, c2, s3, c3, hdl, hb, he, hcc])
    | (with_reducible refine aw_if ?_; simp only [go_sem, reduceIte, Nat.reduceLT, Nat.reduceEqDiff, Nat.reduceAdd, Nat.reduceMul, Nat.reduceSub, Nat.reduceLeDiff, reduceCtorEq, s1, c1, s2, c2, s3, c3, hdl, hb, he, hcc])
    | (with_reducible refine aw_block ?_)
    | (with_reducible refine aw_ret ?_; (try simp only [thenQ, blockQ]); refine aw_ret' ?_; simp only [go_sem, reduceIte, Nat.reduceLT, Nat.reduceEqDiff, Nat.reduceAdd, Nat.reduceMul, Nat.reduceSub, Nat.reduceLeDiff, reduceCtorEq, s1, c1, s2, c2, s3, c3, hdl, hb, he, hcc])
    | (with_reducible refine aw_exit ?_; simp only [thenQ, blockQ, reduceIte, Nat.reduceEqDiff])
    | (with_reducible refine aw_skip ?_; simp only [thenQ, blockQ])
    | (with_reducible refine gate_intro (fun h => ?_) (fun h => ?_) <;> simp only [h, go_sem, reduceIte, Nat.reduceLT, Nat.reduceEqDiff, Nat.reduceAdd, Nat.reduceMul, Nat.reduceSub, Nat.reduceLeDiff, reduceCtorEq, s1, c1, s2, c2, s3, c3, hdl, hb, he, hcc] <;> (try simp only [decide_eq_true_eq, decide_eq_false_iff_not, Bool.not_true] at h))
    | (with_reducible refine chk_in (by kernel_rfl) ?_)
    | (with_reducible refine And.intro (And.intro (by omega) (by omega)) ?_)
    | (with_reducible refine And.intro (by omega) ?_)
    | (refine dlR_call rfl d rfl ?_)
    | (refine can_call rfl l rfl hl (memOf_free rfl) ?_)
    | (rw [get_in]; rotate_left; omega; simp only [go_sem, reduceIte, Nat.reduceLT, Nat.reduceEqDiff, Nat.reduceAdd, Nat.reduceMul, Nat.reduceSub, Nat.reduceLeDiff, reduceCtorEq, s1, c1, s2, c2, s3, c3, hdl, hb, he, hcc])
    | fail)
  refine aw_nil 11 400 4 rfl rfl ?_
  refine aw_nil 12 401 3 rfl rfl ?_
  refine aw_rounds (α := Nat) (fun i => ⟨envOf [(13, i64 i), (9, .row 101), (11, .row 100), (12, .row 102), (4, .box 103 0), (2, i64 u)], memOf [(101, .row 8 (eeR es) true), (100, .row 4 (erR (foldL d ((es.take i).filter fun e => decide (e.1.1 ≤ u))).1) true), (102, .row 3 (rfR (foldL d ((es.take i).filter fun e => decide (e.1.1 ≤ u))).2) true), (103, .cells (dlD d))], 200⟩)
    (fun i => i ≤ es.length) (fun i => es.length - i) 0 (Nat.zero_le _) (weak_in [(101, 35), (100, 400), (102, 401), (103, 3)] (by repeat' (first | trivial | constructor | rfl)) (by repeat' (first | trivial | constructor | rfl)) (by rfl) (by rfl) (by rfl)) ?_
  intro i hi
  have hva := foldL_va d ((es.take i).filter fun e => decide (e.1.1 ≤ u))
  have hol := (vaL_iff.1 hva).1
  have hrl := foldL_rf d ((es.take i).filter fun e => decide (e.1.1 ≤ u))
  have hrl2 : ((es.take i).filter fun e => decide (e.1.1 ≤ u)).length ≤ i := Nat.le_trans (List.length_filter_le _ _) (by simp; omega)
  cases hx : es[i]? with
  | none =>
    have hge : es.length ≤ i := by simpa using hx
    have hc : decide ((i : Int) < (es.length : Int)) = false := by simp <;> omega
    repeat' (first
    | (with_reducible refine aw_seq ?_)
    | (with_reducible refine kont_in ?_; simp only [go_sem, reduceIte, Nat.reduceLT, Nat.reduceEqDiff, Nat.reduceAdd, Nat.reduceMul, Nat.reduceSub, Nat.reduceLeDiff, reduceCtorEq, hc, s1, c1, s2, c2, s3, c3])
    | (with_reducible refine dKont_in ?_; simp only [go_sem, reduceIte, Nat.reduceLT, Nat.reduceEqDiff, Nat.reduceAdd, Nat.reduceMul, Nat.reduceSub, Nat.reduceLeDiff, reduceCtorEq, hc, s1, c1, s2, c2, s3, c3])
    | (with_reducible refine aw_drw (by kernel_rfl) hK hD ?_; simp only [go_sem, reduceIte, Nat.reduceLT, Nat.reduceEqDiff, Nat.reduceAdd, Nat.reduceMul, Nat.reduceSub, Nat.reduceLeDiff, reduceCtorEq, hc, s1, c1, s2, c2, s3, c3])
    | (with_reducible refine aw_reg hK ?_; simp only [go_sem, reduceIte, Nat.reduceLT, Nat.reduceEqDiff, Nat.reduceAdd, Nat.reduceMul, Nat.reduceSub, Nat.reduceLeDiff, reduceCtorEq, hc, s1, c1, s2, c2, s3, c3])
    | (with_reducible refine aw_if ?_; simp only [go_sem, reduceIte, Nat.reduceLT, Nat.reduceEqDiff, Nat.reduceAdd, Nat.reduceMul, Nat.reduceSub, Nat.reduceLeDiff, reduceCtorEq, hc, s1, c1, s2, c2, s3, c3])
    | (with_reducible refine aw_block ?_)
    | (with_reducible refine aw_ret ?_; (try simp only [thenQ, blockQ]); refine aw_ret' ?_; simp only [go_sem, reduceIte, Nat.reduceLT, Nat.reduceEqDiff, Nat.reduceAdd, Nat.reduceMul, Nat.reduceSub, Nat.reduceLeDiff, reduceCtorEq, hc, s1, c1, s2, c2, s3, c3])
    | (with_reducible refine aw_exit ?_; simp only [thenQ, blockQ, reduceIte, Nat.reduceEqDiff])
    | (with_reducible refine aw_skip ?_; simp only [thenQ, blockQ])
    | (with_reducible refine gate_intro (fun h => ?_) (fun h => ?_) <;> simp only [h, go_sem, reduceIte, Nat.reduceLT, Nat.reduceEqDiff, Nat.reduceAdd, Nat.reduceMul, Nat.reduceSub, Nat.reduceLeDiff, reduceCtorEq, hc, s1, c1, s2, c2, s3, c3] <;> (try simp only [decide_eq_true_eq, decide_eq_false_iff_not, Bool.not_true] at h))
    | (with_reducible refine chk_in (by kernel_rfl) ?_)
    | (with_reducible refine And.intro (And.intro (by omega) (by omega)) ?_)
    | (with_reducible refine And.intro (by omega) ?_)
    | (rw [get_in]; rotate_left; omega; simp only [go_sem, reduceIte, Nat.reduceLT, Nat.reduceEqDiff, Nat.reduceAdd, Nat.reduceMul, Nat.reduceSub, Nat.reduceLeDiff, reduceCtorEq, hc, s1, c1, s2, c2, s3, c3])
    | fail)
    refine ⟨_, rfl, ?_, rfl⟩
    rw [List.take_of_length_le hge]; exact .refl _
  | some e =>
    have hlt : i < es.length := (List.getElem?_eq_some_iff.1 hx).1
    have hc : decide ((i : Int) < (es.length : Int)) = true := by simp <;> omega
    have hw := wrS (i := i) (by omega)
    have ht : es.take (i + 1) = es.take i ++ [e] := by rw [List.take_add_one, hx]; rfl
    cases ht2 : decide (e.1.1 > u) with
    | true =>
      have hf : (es.take (i + 1)).filter (fun e => decide (e.1.1 ≤ u)) = (es.take i).filter fun e => decide (e.1.1 ≤ u) := by
        rw [ht, List.filter_append, List.filter_cons_of_neg (by simp at ht2; simp; omega), List.filter_nil, List.append_nil]
      repeat' (first
    | (with_reducible refine aw_seq ?_)
    | (with_reducible refine kont_in ?_; simp only [go_sem, reduceIte, Nat.reduceLT, Nat.reduceEqDiff, Nat.reduceAdd, Nat.reduceMul, Nat.reduceSub, Nat.reduceLeDiff, reduceCtorEq, hc, hx, hw, ht2, eeD_g0, s1, c1, s2, c2, s3, c3])
    | (with_reducible refine dKont_in ?_; simp only [go_sem, reduceIte, Nat.reduceLT, Nat.reduceEqDiff, Nat.reduceAdd, Nat.reduceMul, Nat.reduceSub, Nat.reduceLeDiff, reduceCtorEq, hc, hx, hw, ht2, eeD_g0, s1, c1, s2, c2, s3, c3])
    | (with_reducible refine aw_drw (by kernel_rfl) hK hD ?_; simp only [go_sem, reduceIte, Nat.reduceLT, Nat.reduceEqDiff, Nat.reduceAdd, Nat.reduceMul, Nat.reduceSub, Nat.reduceLeDiff, reduceCtorEq, hc, hx, hw, ht2, eeD_g0, s1, c1, s2, c2, s3, c3])
    | (with_reducible refine aw_reg hK ?_; simp only [go_sem, reduceIte, Nat.reduceLT, Nat.reduceEqDiff, Nat.reduceAdd, Nat.reduceMul, Nat.reduceSub, Nat.reduceLeDiff, reduceCtorEq, hc, hx, hw, ht2, eeD_g0, s1, c1, s2, c2, s3, c3])
    | (with_reducible refine aw_if ?_; simp only [go_sem, reduceIte, Nat.reduceLT, Nat.reduceEqDiff, Nat.reduceAdd, Nat.reduceMul, Nat.reduceSub, Nat.reduceLeDiff, reduceCtorEq, hc, hx, hw, ht2, eeD_g0, s1, c1, s2, c2, s3, c3])
    | (with_reducible refine aw_block ?_)
    | (with_reducible refine aw_ret ?_; (try simp only [thenQ, blockQ]); refine aw_ret' ?_; simp only [go_sem, reduceIte, Nat.reduceLT, Nat.reduceEqDiff, Nat.reduceAdd, Nat.reduceMul, Nat.reduceSub, Nat.reduceLeDiff, reduceCtorEq, hc, hx, hw, ht2, eeD_g0, s1, c1, s2, c2, s3, c3])
    | (with_reducible refine aw_exit ?_; simp only [thenQ, blockQ, reduceIte, Nat.reduceEqDiff])
    | (with_reducible refine aw_skip ?_; simp only [thenQ, blockQ])
    | (with_reducible refine gate_intro (fun h => ?_) (fun h => ?_) <;> simp only [h, go_sem, reduceIte, Nat.reduceLT, Nat.reduceEqDiff, Nat.reduceAdd, Nat.reduceMul, Nat.reduceSub, Nat.reduceLeDiff, reduceCtorEq, hc, hx, hw, ht2, eeD_g0, s1, c1, s2, c2, s3, c3] <;> (try simp only [decide_eq_true_eq, decide_eq_false_iff_not, Bool.not_true] at h))
    | (with_reducible refine chk_in (by kernel_rfl) ?_)
    | (with_reducible refine And.intro (And.intro (by omega) (by omega)) ?_)
    | (with_reducible refine And.intro (by omega) ?_)
    | (rw [get_in]; rotate_left; omega; simp only [go_sem, reduceIte, Nat.reduceLT, Nat.reduceEqDiff, Nat.reduceAdd, Nat.reduceMul, Nat.reduceSub, Nat.reduceLeDiff, reduceCtorEq, hc, hx, hw, ht2, eeD_g0, s1, c1, s2, c2, s3, c3])
    | fail)
      refine ⟨i + 1, ?_, hlt, by omega⟩
      rw [hf]
      exact weak_in [(100, 100), (101, 101), (102, 102), (103, _)] (by repeat' (first | trivial | constructor | rfl)) (by repeat' (first | trivial | constructor | rfl)) (by rfl) (by rfl) (by rfl)
    | false =>
      have hf : (es.take (i + 1)).filter (fun e => decide (e.1.1 ≤ u)) = ((es.take i).filter fun e => decide (e.1.1 ≤ u)) ++ [e] := by
        rw [ht, List.filter_append, List.filter_cons_of_pos (by simp at ht2; simp; omega), List.filter_nil]
      have hst : foldL d ((es.take (i + 1)).filter fun e => decide (e.1.1 ≤ u)) = stepR d (foldL d ((es.take i).filter fun e => decide (e.1.1 ≤ u))) e := by rw [hf, foldL_app]
      generalize foldL d ((es.take i).filter fun e => decide (e.1.1 ≤ u)) = p at *
      cases hap : (applyR p.1 d e).2 != 0 with
      | true =>
        repeat' (first
    | (with_reducible refine aw_seq ?_)
    | (with_reducible refine kont_in ?_; simp only [go_sem, reduceIte, Nat.reduceLT, Nat.reduceEqDiff, Nat.reduceAdd, Nat.reduceMul, Nat.reduceSub, Nat.reduceLeDiff, reduceCtorEq, hc, hx, hw, ht2, eeD_g0, eeD_g1, eeD_g2, rfR_app1, hap, s1, c1, s2, c2, s3, c3])
    | (with_reducible refine dKont_in ?_; simp only [go_sem, reduceIte, Nat.reduceLT, Nat.reduceEqDiff, Nat.reduceAdd, Nat.reduceMul, Nat.reduceSub, Nat.reduceLeDiff, reduceCtorEq, hc, hx, hw, ht2, eeD_g0, eeD_g1, eeD_g2, rfR_app1, hap, s1, c1, s2, c2, s3, c3])
    | (with_reducible refine aw_drw (by kernel_rfl) hK hD ?_; simp only [go_sem, reduceIte, Nat.reduceLT, Nat.reduceEqDiff, Nat.reduceAdd, Nat.reduceMul, Nat.reduceSub, Nat.reduceLeDiff, reduceCtorEq, hc, hx, hw, ht2, eeD_g0, eeD_g1, eeD_g2, rfR_app1, hap, s1, c1, s2, c2, s3, c3])
    | (with_reducible refine aw_reg hK ?_; simp only [go_sem, reduceIte, Nat.reduceLT, Nat.reduceEqDiff, Nat.reduceAdd, Nat.reduceMul, Nat.reduceSub, Nat.reduceLeDiff, reduceCtorEq, hc, hx, hw, ht2, eeD_g0, eeD_g1, eeD_g2, rfR_app1, hap, s1, c1, s2, c2, s3, c3])
    | (with_reducible refine aw_if ?_; simp only [go_sem, reduceIte, Nat.reduceLT, Nat.reduceEqDiff, Nat.reduceAdd, Nat.reduceMul, Nat.reduceSub, Nat.reduceLeDiff, reduceCtorEq, hc, hx, hw, ht2, eeD_g0, eeD_g1, eeD_g2, rfR_app1, hap, s1, c1, s2, c2, s3, c3])
    | (with_reducible refine aw_block ?_)
    | (with_reducible refine aw_ret ?_; (try simp only [thenQ, blockQ]); refine aw_ret' ?_; simp only [go_sem, reduceIte, Nat.reduceLT, Nat.reduceEqDiff, Nat.reduceAdd, Nat.reduceMul, Nat.reduceSub, Nat.reduceLeDiff, reduceCtorEq, hc, hx, hw, ht2, eeD_g0, eeD_g1, eeD_g2, rfR_app1, hap, s1, c1, s2, c2, s3, c3])
    | (with_reducible refine aw_exit ?_; simp only [thenQ, blockQ, reduceIte, Nat.reduceEqDiff])
    | (with_reducible refine aw_skip ?_; simp only [thenQ, blockQ])
    | (with_reducible refine gate_intro (fun h => ?_) (fun h => ?_) <;> simp only [h, go_sem, reduceIte, Nat.reduceLT, Nat.reduceEqDiff, Nat.reduceAdd, Nat.reduceMul, Nat.reduceSub, Nat.reduceLeDiff, reduceCtorEq, hc, hx, hw, ht2, eeD_g0, eeD_g1, eeD_g2, rfR_app1, hap, s1, c1, s2, c2, s3, c3] <;> (try simp only [decide_eq_true_eq, decide_eq_false_iff_not, Bool.not_true] at h))
    | (with_reducible refine chk_in (by kernel_rfl) ?_)
    | (with_reducible refine And.intro (And.intro (by omega) (by omega)) ?_)
    | (with_reducible refine And.intro (by omega) ?_)
    | (refine ap_call rfl p.1 d e rfl (by omega) (memOf_free rfl) ?_)
    | (rw [get_in]; rotate_left; omega; simp only [go_sem, reduceIte, Nat.reduceLT, Nat.reduceEqDiff, Nat.reduceAdd, Nat.reduceMul, Nat.reduceSub, Nat.reduceLeDiff, reduceCtorEq, hc, hx, hw, ht2, eeD_g0, eeD_g1, eeD_g2, rfR_app1, hap, s1, c1, s2, c2, s3, c3])
    | fail)
        refine ⟨i + 1, ?_, hlt, by omega⟩
        rw [hst, stepR, if_neg (by simpa using hap)]
        exact weak_in [(100, 100), (101, 101), (102, _), (103, _)] (by repeat' (first | trivial | constructor | rfl)) (by repeat' (first | trivial | constructor | rfl)) (by rfl) (by rfl) (by rfl)
      | false =>
        repeat' (first
    | (with_reducible refine aw_seq ?_)
    | (with_reducible refine kont_in ?_; simp only [go_sem, reduceIte, Nat.reduceLT, Nat.reduceEqDiff, Nat.reduceAdd, Nat.reduceMul, Nat.reduceSub, Nat.reduceLeDiff, reduceCtorEq, hc, hx, hw, ht2, eeD_g0, hap, s1, c1, s2, c2, s3, c3])
    | (with_reducible refine dKont_in ?_; simp only [go_sem, reduceIte, Nat.reduceLT, Nat.reduceEqDiff, Nat.reduceAdd, Nat.reduceMul, Nat.reduceSub, Nat.reduceLeDiff, reduceCtorEq, hc, hx, hw, ht2, eeD_g0, hap, s1, c1, s2, c2, s3, c3])
    | (with_reducible refine aw_drw (by kernel_rfl) hK hD ?_; simp only [go_sem, reduceIte, Nat.reduceLT, Nat.reduceEqDiff, Nat.reduceAdd, Nat.reduceMul, Nat.reduceSub, Nat.reduceLeDiff, reduceCtorEq, hc, hx, hw, ht2, eeD_g0, hap, s1, c1, s2, c2, s3, c3])
    | (with_reducible refine aw_reg hK ?_; simp only [go_sem, reduceIte, Nat.reduceLT, Nat.reduceEqDiff, Nat.reduceAdd, Nat.reduceMul, Nat.reduceSub, Nat.reduceLeDiff, reduceCtorEq, hc, hx, hw, ht2, eeD_g0, hap, s1, c1, s2, c2, s3, c3])
    | (with_reducible refine aw_if ?_; simp only [go_sem, reduceIte, Nat.reduceLT, Nat.reduceEqDiff, Nat.reduceAdd, Nat.reduceMul, Nat.reduceSub, Nat.reduceLeDiff, reduceCtorEq, hc, hx, hw, ht2, eeD_g0, hap, s1, c1, s2, c2, s3, c3])
    | (with_reducible refine aw_block ?_)
    | (with_reducible refine aw_ret ?_; (try simp only [thenQ, blockQ]); refine aw_ret' ?_; simp only [go_sem, reduceIte, Nat.reduceLT, Nat.reduceEqDiff, Nat.reduceAdd, Nat.reduceMul, Nat.reduceSub, Nat.reduceLeDiff, reduceCtorEq, hc, hx, hw, ht2, eeD_g0, hap, s1, c1, s2, c2, s3, c3])
    | (with_reducible refine aw_exit ?_; simp only [thenQ, blockQ, reduceIte, Nat.reduceEqDiff])
    | (with_reducible refine aw_skip ?_; simp only [thenQ, blockQ])
    | (with_reducible refine gate_intro (fun h => ?_) (fun h => ?_) <;> simp only [h, go_sem, reduceIte, Nat.reduceLT, Nat.reduceEqDiff, Nat.reduceAdd, Nat.reduceMul, Nat.reduceSub, Nat.reduceLeDiff, reduceCtorEq, hc, hx, hw, ht2, eeD_g0, hap, s1, c1, s2, c2, s3, c3] <;> (try simp only [decide_eq_true_eq, decide_eq_false_iff_not, Bool.not_true] at h))
    | (with_reducible refine chk_in (by kernel_rfl) ?_)
    | (with_reducible refine And.intro (And.intro (by omega) (by omega)) ?_)
    | (with_reducible refine And.intro (by omega) ?_)
    | (refine ap_call rfl p.1 d e rfl (by omega) (memOf_free rfl) ?_)
    | (rw [get_in]; rotate_left; omega; simp only [go_sem, reduceIte, Nat.reduceLT, Nat.reduceEqDiff, Nat.reduceAdd, Nat.reduceMul, Nat.reduceSub, Nat.reduceLeDiff, reduceCtorEq, hc, hx, hw, ht2, eeD_g0, hap, s1, c1, s2, c2, s3, c3])
    | fail)
        refine ⟨i + 1, ?_, hlt, by omega⟩
        rw [hst, stepR, if_pos (by simpa using hap)]
        exact weak_in [(101, 101), (100, _), (102, 102), (103, _)] (by repeat' (first | trivial | constructor | rfl)) (by repeat' (first | trivial | constructor | rfl)) (by rfl) (by rfl) (by rfl)
end Go.Proofs.R1

/- Entries: same, refusals, Find, Paper. -/
set_option linter.unusedVariables false
set_option linter.unusedSimpArgs false
set_option maxRecDepth 8000
set_option maxHeartbeats 4000000
namespace Go.Proofs.R1
open Go Go.Abs

theorem erD_eqc (a b : Er) : eqCells (erD a) (erD b) = some (decide (a = b)) := by
  obtain ⟨⟨x1, x2, x3⟩, x4⟩ := a; obtain ⟨⟨y1, y2, y3⟩, y4⟩ := b
  simp only [erD, eqCells, if_true, Option.map_some, Prod.mk.injEq, Option.some.injEq, Bool.and_true]
  rw [Bool.eq_iff_iff]; simp [and_assoc]
@[go_sem] theorem erD_kd (a : Er) : (erD a).map kdD = [0, 0, 0, 1] := rfl
theorem rfD_eqc (a b : Rf) : eqCells (rfD a) (rfD b) = some (decide (a = b)) := by
  obtain ⟨⟨x1, x2⟩, x3⟩ := a; obtain ⟨⟨y1, y2⟩, y3⟩ := b
  simp only [rfD, eqCells, if_true, Option.map_some, Prod.mk.injEq, Option.some.injEq, Bool.and_true]
  rw [Bool.eq_iff_iff]; simp [and_assoc]
@[go_sem] theorem rfD_kd (a : Rf) : (rfD a).map kdD = [0, 0, 0] := rfl
theorem list_eq_iff {α : Type} {a b : List α} (hl : a.length = b.length) : a = b ↔ ∀ (i : Nat) (x y : α), a[i]? = some x → b[i]? = some y → x = y := by
  constructor
  · rintro rfl i x y h1 h2; rw [h1] at h2; exact Option.some.inj h2
  · intro h
    apply List.ext_getElem hl
    intro i h1 h2
    exact h i _ _ (List.getElem?_eq_getElem h1) (List.getElem?_eq_getElem h2)
theorem eq_upto {α : Type} {a b : List α} {i : Nat} {x y : α} (hI : ∀ k x y, k < i → a[k]? = some x → b[k]? = some y → x = y) (hx : a[i]? = some x) (hy : b[i]? = some y) (h : x = y) : ∀ k x y, k < i + 1 → a[k]? = some x → b[k]? = some y → x = y := by
  intro k u v hk hu hv
  rcases Nat.lt_or_ge k i with h1 | h1
  · exact hI k u v h1 hu hv
  · have : k = i := by omega
    subst this; rw [hx] at hu; rw [hy] at hv; cases hu; cases hv; exact h
abbrev smC : Con where
  α := List Er × List Er
  kinds := [false, false]
  args := fun a => [.d (.sl 4 (erR a.1)), .d (.sl 4 (erR a.2))]
  pre := fun a => a.1.length ≤ 1000000 ∧ a.2.length ≤ 1000000
  post := fun a r => r = ⟨[.d (bl (decide (a.1 = a.2)))], []⟩
  clean := true
theorem sm_ok : CallOk Try.prog 24 smC := by
  refine ok_of_body' 26 2 Try.func24 rfl (by decide) Try.ntmps24 (by intro a h; exact ⟨rfl, rfl⟩) (by decide) (by rintro _ a r _ rfl; rfl) ?_
  rintro ⟨(a : List Er), (b : List Er)⟩ ⟨ha, hb⟩
  simp only [smC] at ha hb ⊢
  simp only [initE, initMm, List.length_cons, List.length_nil, Nat.reduceAdd]
  by_cases hl : a.length = b.length
  case neg =>
    have hc : ((a.length : Int) != (b.length : Int)) = true := by simp; omega
    repeat' (first
    | (with_reducible refine aw_seq ?_)
    | (with_reducible refine kont_in ?_; simp only [go_sem, reduceIte, Nat.reduceLT, Nat.reduceEqDiff, Nat.reduceAdd, Nat.reduceMul, Nat.reduceSub, Nat.reduceLeDiff, reduceCtorEq, hc])
    | (with_reducible refine dKont_in ?_; simp only [go_sem, reduceIte, Nat.reduceLT, Nat.reduceEqDiff, Nat.reduceAdd, Nat.reduceMul, Nat.reduceSub, Nat.reduceLeDiff, reduceCtorEq, hc])
    | (with_reducible refine aw_drw (by kernel_rfl) kOk_nil kDet_nil ?_; simp only [go_sem, reduceIte, Nat.reduceLT, Nat.reduceEqDiff, Nat.reduceAdd, Nat.reduceMul, Nat.reduceSub, Nat.reduceLeDiff, reduceCtorEq, hc])
    | (with_reducible refine aw_reg kOk_nil ?_; simp only [go_sem, reduceIte, Nat.reduceLT, Nat.reduceEqDiff, Nat.reduceAdd, Nat.reduceMul, Nat.reduceSub, Nat.reduceLeDiff, reduceCtorEq, hc])
    | (with_reducible refine aw_if ?_; simp only [go_sem, reduceIte, Nat.reduceLT, Nat.reduceEqDiff, Nat.reduceAdd, Nat.reduceMul, Nat.reduceSub, Nat.reduceLeDiff, reduceCtorEq, hc])
    | (with_reducible refine aw_block ?_)
    | (with_reducible refine aw_ret ?_; (try simp only [thenQ, blockQ]); refine aw_ret' ?_; simp only [go_sem, reduceIte, Nat.reduceLT, Nat.reduceEqDiff, Nat.reduceAdd, Nat.reduceMul, Nat.reduceSub, Nat.reduceLeDiff, reduceCtorEq, hc])
    | (with_reducible refine aw_exit ?_; simp only [thenQ, blockQ, reduceIte, Nat.reduceEqDiff])
    | (with_reducible refine aw_skip ?_; simp only [thenQ, blockQ])
    | (with_reducible refine gate_intro (fun h => ?_) (fun h => ?_) <;> simp only [h, go_sem, reduceIte, Nat.reduceLT, Nat.reduceEqDiff, Nat.reduceAdd, Nat.reduceMul, Nat.reduceSub, Nat.reduceLeDiff, reduceCtorEq, hc] <;> (try simp only [decide_eq_true_eq, decide_eq_false_iff_not, Bool.not_true] at h))
    | (with_reducible refine chk_in (by kernel_rfl) ?_)
    | (with_reducible refine And.intro (And.intro (by omega) (by omega)) ?_)
    | (with_reducible refine And.intro (by omega) ?_)
    | (rw [get_in]; rotate_left; omega; simp only [go_sem, reduceIte, Nat.reduceLT, Nat.reduceEqDiff, Nat.reduceAdd, Nat.reduceMul, Nat.reduceSub, Nat.reduceLeDiff, reduceCtorEq, hc])
    | fail)
    rw [decide_eq_false (fun h => hl (by rw [h]))]
  have hc : ((b.length : Int) != (b.length : Int)) = false := by simp
  repeat' (first
    | (with_reducible refine aw_seq ?_)
    | (with_reducible refine kont_in ?_; simp only [go_sem, reduceIte, Nat.reduceLT, Nat.reduceEqDiff, Nat.reduceAdd, Nat.reduceMul, Nat.reduceSub, Nat.reduceLeDiff, reduceCtorEq, hc, hl])
    | (with_reducible refine dKont_in ?_; simp only [go_sem, reduceIte, Nat.reduceLT, Nat.reduceEqDiff, Nat.reduceAdd, Nat.reduceMul, Nat.reduceSub, Nat.reduceLeDiff, reduceCtorEq, hc, hl])
    | (with_reducible refine aw_drw (by kernel_rfl) kOk_nil kDet_nil ?_; simp only [go_sem, reduceIte, Nat.reduceLT, Nat.reduceEqDiff, Nat.reduceAdd, Nat.reduceMul, Nat.reduceSub, Nat.reduceLeDiff, reduceCtorEq, hc, hl])
    | (with_reducible refine aw_reg kOk_nil ?_; simp only [go_sem, reduceIte, Nat.reduceLT, Nat.reduceEqDiff, Nat.reduceAdd, Nat.reduceMul, Nat.reduceSub, Nat.reduceLeDiff, reduceCtorEq, hc, hl])
    | (with_reducible refine aw_if ?_; simp only [go_sem, reduceIte, Nat.reduceLT, Nat.reduceEqDiff, Nat.reduceAdd, Nat.reduceMul, Nat.reduceSub, Nat.reduceLeDiff, reduceCtorEq, hc, hl])
    | (with_reducible refine aw_block ?_)
    | (with_reducible refine aw_ret ?_; (try simp only [thenQ, blockQ]); refine aw_ret' ?_; simp only [go_sem, reduceIte, Nat.reduceLT, Nat.reduceEqDiff, Nat.reduceAdd, Nat.reduceMul, Nat.reduceSub, Nat.reduceLeDiff, reduceCtorEq, hc, hl])
    | (with_reducible refine aw_exit ?_; simp only [thenQ, blockQ, reduceIte, Nat.reduceEqDiff])
    | (with_reducible refine aw_skip ?_; simp only [thenQ, blockQ])
    | (with_reducible refine gate_intro (fun h => ?_) (fun h => ?_) <;> simp only [h, go_sem, reduceIte, Nat.reduceLT, Nat.reduceEqDiff, Nat.reduceAdd, Nat.reduceMul, Nat.reduceSub, Nat.reduceLeDiff, reduceCtorEq, hc, hl] <;> (try simp only [decide_eq_true_eq, decide_eq_false_iff_not, Bool.not_true] at h))
    | (with_reducible refine chk_in (by kernel_rfl) ?_)
    | (with_reducible refine And.intro (And.intro (by omega) (by omega)) ?_)
    | (with_reducible refine And.intro (by omega) ?_)
    | (rw [get_in]; rotate_left; omega; simp only [go_sem, reduceIte, Nat.reduceLT, Nat.reduceEqDiff, Nat.reduceAdd, Nat.reduceMul, Nat.reduceSub, Nat.reduceLeDiff, reduceCtorEq, hc, hl])
    | fail)
  refine aw_rounds (α := Nat) (fun i => ⟨envOf [(5, i64 i), (0, .sl 4 (erR a)), (1, .sl 4 (erR b))], memOf [], 200⟩)
    (fun i => i ≤ a.length ∧ ∀ k x y, k < i → a[k]? = some x → b[k]? = some y → x = y) (fun i => a.length - i) 0 ⟨Nat.zero_le _, fun k x y h => by omega⟩ (weak_in [] (by repeat' (first | trivial | constructor | rfl)) (by repeat' (first | trivial | constructor | rfl)) (by rfl) (by rfl) (by rfl)) ?_
  rintro i ⟨hi, hI⟩
  cases hx : a[i]? with
  | none =>
    have hge : a.length ≤ i := by simpa using hx
    have hc : decide ((i : Int) < (a.length : Int)) = false := by simp <;> omega
    repeat' (first
    | (with_reducible refine aw_seq ?_)
    | (with_reducible refine kont_in ?_; simp only [go_sem, reduceIte, Nat.reduceLT, Nat.reduceEqDiff, Nat.reduceAdd, Nat.reduceMul, Nat.reduceSub, Nat.reduceLeDiff, reduceCtorEq, hc])
    | (with_reducible refine dKont_in ?_; simp only [go_sem, reduceIte, Nat.reduceLT, Nat.reduceEqDiff, Nat.reduceAdd, Nat.reduceMul, Nat.reduceSub, Nat.reduceLeDiff, reduceCtorEq, hc])
    | (with_reducible refine aw_drw (by kernel_rfl) kOk_nil kDet_nil ?_; simp only [go_sem, reduceIte, Nat.reduceLT, Nat.reduceEqDiff, Nat.reduceAdd, Nat.reduceMul, Nat.reduceSub, Nat.reduceLeDiff, reduceCtorEq, hc])
    | (with_reducible refine aw_reg kOk_nil ?_; simp only [go_sem, reduceIte, Nat.reduceLT, Nat.reduceEqDiff, Nat.reduceAdd, Nat.reduceMul, Nat.reduceSub, Nat.reduceLeDiff, reduceCtorEq, hc])
    | (with_reducible refine aw_if ?_; simp only [go_sem, reduceIte, Nat.reduceLT, Nat.reduceEqDiff, Nat.reduceAdd, Nat.reduceMul, Nat.reduceSub, Nat.reduceLeDiff, reduceCtorEq, hc])
    | (with_reducible refine aw_block ?_)
    | (with_reducible refine aw_ret ?_; (try simp only [thenQ, blockQ]); refine aw_ret' ?_; simp only [go_sem, reduceIte, Nat.reduceLT, Nat.reduceEqDiff, Nat.reduceAdd, Nat.reduceMul, Nat.reduceSub, Nat.reduceLeDiff, reduceCtorEq, hc])
    | (with_reducible refine aw_exit ?_; simp only [thenQ, blockQ, reduceIte, Nat.reduceEqDiff])
    | (with_reducible refine aw_skip ?_; simp only [thenQ, blockQ])
    | (with_reducible refine gate_intro (fun h => ?_) (fun h => ?_) <;> simp only [h, go_sem, reduceIte, Nat.reduceLT, Nat.reduceEqDiff, Nat.reduceAdd, Nat.reduceMul, Nat.reduceSub, Nat.reduceLeDiff, reduceCtorEq, hc] <;> (try simp only [decide_eq_true_eq, decide_eq_false_iff_not, Bool.not_true] at h))
    | (with_reducible refine chk_in (by kernel_rfl) ?_)
    | (with_reducible refine And.intro (And.intro (by omega) (by omega)) ?_)
    | (with_reducible refine And.intro (by omega) ?_)
    | (rw [get_in]; rotate_left; omega; simp only [go_sem, reduceIte, Nat.reduceLT, Nat.reduceEqDiff, Nat.reduceAdd, Nat.reduceMul, Nat.reduceSub, Nat.reduceLeDiff, reduceCtorEq, hc])
    | fail)
    rw [decide_eq_true ((list_eq_iff hl).2 fun k x y h1 h2 => hI k x y (by have := (List.getElem?_eq_some_iff.1 h1).1; omega) h1 h2)]
  | some x =>
    have hlt : i < a.length := (List.getElem?_eq_some_iff.1 hx).1
    have hc : decide ((i : Int) < (a.length : Int)) = true := by simp <;> omega
    have hw := wrS (i := i) (by omega)
    obtain ⟨y, hy⟩ : ∃ y, b[i]? = some y := ⟨_, List.getElem?_eq_getElem (by omega)⟩
    have hib : i < b.length := by omega
    repeat' (first
    | (with_reducible refine aw_seq ?_)
    | (with_reducible refine kont_in ?_; simp only [go_sem, reduceIte, Nat.reduceLT, Nat.reduceEqDiff, Nat.reduceAdd, Nat.reduceMul, Nat.reduceSub, Nat.reduceLeDiff, reduceCtorEq, hc, hw, hx, hy, erD_eqc])
    | (with_reducible refine dKont_in ?_; simp only [go_sem, reduceIte, Nat.reduceLT, Nat.reduceEqDiff, Nat.reduceAdd, Nat.reduceMul, Nat.reduceSub, Nat.reduceLeDiff, reduceCtorEq, hc, hw, hx, hy, erD_eqc])
    | (with_reducible refine aw_drw (by kernel_rfl) kOk_nil kDet_nil ?_; simp only [go_sem, reduceIte, Nat.reduceLT, Nat.reduceEqDiff, Nat.reduceAdd, Nat.reduceMul, Nat.reduceSub, Nat.reduceLeDiff, reduceCtorEq, hc, hw, hx, hy, erD_eqc])
    | (with_reducible refine aw_reg kOk_nil ?_; simp only [go_sem, reduceIte, Nat.reduceLT, Nat.reduceEqDiff, Nat.reduceAdd, Nat.reduceMul, Nat.reduceSub, Nat.reduceLeDiff, reduceCtorEq, hc, hw, hx, hy, erD_eqc])
    | (with_reducible refine aw_if ?_; simp only [go_sem, reduceIte, Nat.reduceLT, Nat.reduceEqDiff, Nat.reduceAdd, Nat.reduceMul, Nat.reduceSub, Nat.reduceLeDiff, reduceCtorEq, hc, hw, hx, hy, erD_eqc])
    | (with_reducible refine aw_block ?_)
    | (with_reducible refine aw_ret ?_; (try simp only [thenQ, blockQ]); refine aw_ret' ?_; simp only [go_sem, reduceIte, Nat.reduceLT, Nat.reduceEqDiff, Nat.reduceAdd, Nat.reduceMul, Nat.reduceSub, Nat.reduceLeDiff, reduceCtorEq, hc, hw, hx, hy, erD_eqc])
    | (with_reducible refine aw_exit ?_; simp only [thenQ, blockQ, reduceIte, Nat.reduceEqDiff])
    | (with_reducible refine aw_skip ?_; simp only [thenQ, blockQ])
    | (with_reducible refine gate_intro (fun h => ?_) (fun h => ?_) <;> simp only [h, go_sem, reduceIte, Nat.reduceLT, Nat.reduceEqDiff, Nat.reduceAdd, Nat.reduceMul, Nat.reduceSub, Nat.reduceLeDiff, reduceCtorEq, hc, hw, hx, hy, erD_eqc] <;> (try simp only [decide_eq_true_eq, decide_eq_false_iff_not, Bool.not_true] at h))
    | (with_reducible refine chk_in (by kernel_rfl) ?_)
    | (with_reducible refine And.intro (And.intro (by omega) (by omega)) ?_)
    | (with_reducible refine And.intro (by omega) ?_)
    | (rw [get_in]; rotate_left; omega; simp only [go_sem, reduceIte, Nat.reduceLT, Nat.reduceEqDiff, Nat.reduceAdd, Nat.reduceMul, Nat.reduceSub, Nat.reduceLeDiff, reduceCtorEq, hc, hw, hx, hy, erD_eqc])
    | fail)
    · rw [decide_eq_false (fun he => by rw [(list_eq_iff hl).1 he i x y hx hy] at h; simp at h)]
    · exact ⟨i + 1, weak_in [] (by repeat' (first | trivial | constructor | rfl)) (by repeat' (first | trivial | constructor | rfl)) (by rfl) (by rfl) (by rfl), ⟨hlt, eq_upto hI hx hy (by simpa using h)⟩, by omega⟩
abbrev rsC : Con where
  α := List Rf × List Rf
  kinds := [false, false]
  args := fun a => [.d (.sl 3 (rfR a.1)), .d (.sl 3 (rfR a.2))]
  pre := fun a => a.1.length ≤ 1000000 ∧ a.2.length ≤ 1000000
  post := fun a r => r = ⟨[.d (bl (decide (a.1 = a.2)))], []⟩
  clean := true
theorem rs_ok : CallOk Try.prog 27 rsC := by
  refine ok_of_body' 26 2 Try.func27 rfl (by decide) Try.ntmps27 (by intro a h; exact ⟨rfl, rfl⟩) (by decide) (by rintro _ a r _ rfl; rfl) ?_
  rintro ⟨(a : List Rf), (b : List Rf)⟩ ⟨ha, hb⟩
  simp only [rsC] at ha hb ⊢
  simp only [initE, initMm, List.length_cons, List.length_nil, Nat.reduceAdd]
  by_cases hl : a.length = b.length
  case neg =>
    have hc : ((a.length : Int) != (b.length : Int)) = true := by simp; omega
    repeat' (first
    | (with_reducible refine aw_seq ?_)
    | (with_reducible refine kont_in ?_; simp only [go_sem, reduceIte, Nat.reduceLT, Nat.reduceEqDiff, Nat.reduceAdd, Nat.reduceMul, Nat.reduceSub, Nat.reduceLeDiff, reduceCtorEq, hc])
    | (with_reducible refine dKont_in ?_; simp only [go_sem, reduceIte, Nat.reduceLT, Nat.reduceEqDiff, Nat.reduceAdd, Nat.reduceMul, Nat.reduceSub, Nat.reduceLeDiff, reduceCtorEq, hc])
    | (with_reducible refine aw_drw (by kernel_rfl) kOk_nil kDet_nil ?_; simp only [go_sem, reduceIte, Nat.reduceLT, Nat.reduceEqDiff, Nat.reduceAdd, Nat.reduceMul, Nat.reduceSub, Nat.reduceLeDiff, reduceCtorEq, hc])
    | (with_reducible refine aw_reg kOk_nil ?_; simp only [go_sem, reduceIte, Nat.reduceLT, Nat.reduceEqDiff, Nat.reduceAdd, Nat.reduceMul, Nat.reduceSub, Nat.reduceLeDiff, reduceCtorEq, hc])
    | (with_reducible refine aw_if ?_; simp only [go_sem, reduceIte, Nat.reduceLT, Nat.reduceEqDiff, Nat.reduceAdd, Nat.reduceMul, Nat.reduceSub, Nat.reduceLeDiff, reduceCtorEq, hc])
    | (with_reducible refine aw_block ?_)
    | (with_reducible refine aw_ret ?_; (try simp only [thenQ, blockQ]); refine aw_ret' ?_; simp only [go_sem, reduceIte, Nat.reduceLT, Nat.reduceEqDiff, Nat.reduceAdd, Nat.reduceMul, Nat.reduceSub, Nat.reduceLeDiff, reduceCtorEq, hc])
    | (with_reducible refine aw_exit ?_; simp only [thenQ, blockQ, reduceIte, Nat.reduceEqDiff])
    | (with_reducible refine aw_skip ?_; simp only [thenQ, blockQ])
    | (with_reducible refine gate_intro (fun h => ?_) (fun h => ?_) <;> simp only [h, go_sem, reduceIte, Nat.reduceLT, Nat.reduceEqDiff, Nat.reduceAdd, Nat.reduceMul, Nat.reduceSub, Nat.reduceLeDiff, reduceCtorEq, hc] <;> (try simp only [decide_eq_true_eq, decide_eq_false_iff_not, Bool.not_true] at h))
    | (with_reducible refine chk_in (by kernel_rfl) ?_)
    | (with_reducible refine And.intro (And.intro (by omega) (by omega)) ?_)
    | (with_reducible refine And.intro (by omega) ?_)
    | (rw [get_in]; rotate_left; omega; simp only [go_sem, reduceIte, Nat.reduceLT, Nat.reduceEqDiff, Nat.reduceAdd, Nat.reduceMul, Nat.reduceSub, Nat.reduceLeDiff, reduceCtorEq, hc])
    | fail)
    rw [decide_eq_false (fun h => hl (by rw [h]))]
  have hc : ((b.length : Int) != (b.length : Int)) = false := by simp
  repeat' (first
    | (with_reducible refine aw_seq ?_)
    | (with_reducible refine kont_in ?_; simp only [go_sem, reduceIte, Nat.reduceLT, Nat.reduceEqDiff, Nat.reduceAdd, Nat.reduceMul, Nat.reduceSub, Nat.reduceLeDiff, reduceCtorEq, hc, hl])
    | (with_reducible refine dKont_in ?_; simp only [go_sem, reduceIte, Nat.reduceLT, Nat.reduceEqDiff, Nat.reduceAdd, Nat.reduceMul, Nat.reduceSub, Nat.reduceLeDiff, reduceCtorEq, hc, hl])
    | (with_reducible refine aw_drw (by kernel_rfl) kOk_nil kDet_nil ?_; simp only [go_sem, reduceIte, Nat.reduceLT, Nat.reduceEqDiff, Nat.reduceAdd, Nat.reduceMul, Nat.reduceSub, Nat.reduceLeDiff, reduceCtorEq, hc, hl])
    | (with_reducible refine aw_reg kOk_nil ?_; simp only [go_sem, reduceIte, Nat.reduceLT, Nat.reduceEqDiff, Nat.reduceAdd, Nat.reduceMul, Nat.reduceSub, Nat.reduceLeDiff, reduceCtorEq, hc, hl])
    | (with_reducible refine aw_if ?_; simp only [go_sem, reduceIte, Nat.reduceLT, Nat.reduceEqDiff, Nat.reduceAdd, Nat.reduceMul, Nat.reduceSub, Nat.reduceLeDiff, reduceCtorEq, hc, hl])
    | (with_reducible refine aw_block ?_)
    | (with_reducible refine aw_ret ?_; (try simp only [thenQ, blockQ]); refine aw_ret' ?_; simp only [go_sem, reduceIte, Nat.reduceLT, Nat.reduceEqDiff, Nat.reduceAdd, Nat.reduceMul, Nat.reduceSub, Nat.reduceLeDiff, reduceCtorEq, hc, hl])
    | (with_reducible refine aw_exit ?_; simp only [thenQ, blockQ, reduceIte, Nat.reduceEqDiff])
    | (with_reducible refine aw_skip ?_; simp only [thenQ, blockQ])
    | (with_reducible refine gate_intro (fun h => ?_) (fun h => ?_) <;> simp only [h, go_sem, reduceIte, Nat.reduceLT, Nat.reduceEqDiff, Nat.reduceAdd, Nat.reduceMul, Nat.reduceSub, Nat.reduceLeDiff, reduceCtorEq, hc, hl] <;> (try simp only [decide_eq_true_eq, decide_eq_false_iff_not, Bool.not_true] at h))
    | (with_reducible refine chk_in (by kernel_rfl) ?_)
    | (with_reducible refine And.intro (And.intro (by omega) (by omega)) ?_)
    | (with_reducible refine And.intro (by omega) ?_)
    | (rw [get_in]; rotate_left; omega; simp only [go_sem, reduceIte, Nat.reduceLT, Nat.reduceEqDiff, Nat.reduceAdd, Nat.reduceMul, Nat.reduceSub, Nat.reduceLeDiff, reduceCtorEq, hc, hl])
    | fail)
  refine aw_rounds (α := Nat) (fun i => ⟨envOf [(5, i64 i), (0, .sl 3 (rfR a)), (1, .sl 3 (rfR b))], memOf [], 200⟩)
    (fun i => i ≤ a.length ∧ ∀ k x y, k < i → a[k]? = some x → b[k]? = some y → x = y) (fun i => a.length - i) 0 ⟨Nat.zero_le _, fun k x y h => by omega⟩ (weak_in [] (by repeat' (first | trivial | constructor | rfl)) (by repeat' (first | trivial | constructor | rfl)) (by rfl) (by rfl) (by rfl)) ?_
  rintro i ⟨hi, hI⟩
  cases hx : a[i]? with
  | none =>
    have hge : a.length ≤ i := by simpa using hx
    have hc : decide ((i : Int) < (a.length : Int)) = false := by simp <;> omega
    repeat' (first
    | (with_reducible refine aw_seq ?_)
    | (with_reducible refine kont_in ?_; simp only [go_sem, reduceIte, Nat.reduceLT, Nat.reduceEqDiff, Nat.reduceAdd, Nat.reduceMul, Nat.reduceSub, Nat.reduceLeDiff, reduceCtorEq, hc])
    | (with_reducible refine dKont_in ?_; simp only [go_sem, reduceIte, Nat.reduceLT, Nat.reduceEqDiff, Nat.reduceAdd, Nat.reduceMul, Nat.reduceSub, Nat.reduceLeDiff, reduceCtorEq, hc])
    | (with_reducible refine aw_drw (by kernel_rfl) kOk_nil kDet_nil ?_; simp only [go_sem, reduceIte, Nat.reduceLT, Nat.reduceEqDiff, Nat.reduceAdd, Nat.reduceMul, Nat.reduceSub, Nat.reduceLeDiff, reduceCtorEq, hc])
    | (with_reducible refine aw_reg kOk_nil ?_; simp only [go_sem, reduceIte, Nat.reduceLT, Nat.reduceEqDiff, Nat.reduceAdd, Nat.reduceMul, Nat.reduceSub, Nat.reduceLeDiff, reduceCtorEq, hc])
    | (with_reducible refine aw_if ?_; simp only [go_sem, reduceIte, Nat.reduceLT, Nat.reduceEqDiff, Nat.reduceAdd, Nat.reduceMul, Nat.reduceSub, Nat.reduceLeDiff, reduceCtorEq, hc])
    | (with_reducible refine aw_block ?_)
    | (with_reducible refine aw_ret ?_; (try simp only [thenQ, blockQ]); refine aw_ret' ?_; simp only [go_sem, reduceIte, Nat.reduceLT, Nat.reduceEqDiff, Nat.reduceAdd, Nat.reduceMul, Nat.reduceSub, Nat.reduceLeDiff, reduceCtorEq, hc])
    | (with_reducible refine aw_exit ?_; simp only [thenQ, blockQ, reduceIte, Nat.reduceEqDiff])
    | (with_reducible refine aw_skip ?_; simp only [thenQ, blockQ])
    | (with_reducible refine gate_intro (fun h => ?_) (fun h => ?_) <;> simp only [h, go_sem, reduceIte, Nat.reduceLT, Nat.reduceEqDiff, Nat.reduceAdd, Nat.reduceMul, Nat.reduceSub, Nat.reduceLeDiff, reduceCtorEq, hc] <;> (try simp only [decide_eq_true_eq, decide_eq_false_iff_not, Bool.not_true] at h))
    | (with_reducible refine chk_in (by kernel_rfl) ?_)
    | (with_reducible refine And.intro (And.intro (by omega) (by omega)) ?_)
    | (with_reducible refine And.intro (by omega) ?_)
    | (rw [get_in]; rotate_left; omega; simp only [go_sem, reduceIte, Nat.reduceLT, Nat.reduceEqDiff, Nat.reduceAdd, Nat.reduceMul, Nat.reduceSub, Nat.reduceLeDiff, reduceCtorEq, hc])
    | fail)
    rw [decide_eq_true ((list_eq_iff hl).2 fun k x y h1 h2 => hI k x y (by have := (List.getElem?_eq_some_iff.1 h1).1; omega) h1 h2)]
  | some x =>
    have hlt : i < a.length := (List.getElem?_eq_some_iff.1 hx).1
    have hc : decide ((i : Int) < (a.length : Int)) = true := by simp <;> omega
    have hw := wrS (i := i) (by omega)
    obtain ⟨y, hy⟩ : ∃ y, b[i]? = some y := ⟨_, List.getElem?_eq_getElem (by omega)⟩
    have hib : i < b.length := by omega
    repeat' (first
    | (with_reducible refine aw_seq ?_)
    | (with_reducible refine kont_in ?_; simp only [go_sem, reduceIte, Nat.reduceLT, Nat.reduceEqDiff, Nat.reduceAdd, Nat.reduceMul, Nat.reduceSub, Nat.reduceLeDiff, reduceCtorEq, hc, hw, hx, hy, rfD_eqc])
    | (with_reducible refine dKont_in ?_; simp only [go_sem, reduceIte, Nat.reduceLT, Nat.reduceEqDiff, Nat.reduceAdd, Nat.reduceMul, Nat.reduceSub, Nat.reduceLeDiff, reduceCtorEq, hc, hw, hx, hy, rfD_eqc])
    | (with_reducible refine aw_drw (by kernel_rfl) kOk_nil kDet_nil ?_; simp only [go_sem, reduceIte, Nat.reduceLT, Nat.reduceEqDiff, Nat.reduceAdd, Nat.reduceMul, Nat.reduceSub, Nat.reduceLeDiff, reduceCtorEq, hc, hw, hx, hy, rfD_eqc])
    | (with_reducible refine aw_reg kOk_nil ?_; simp only [go_sem, reduceIte, Nat.reduceLT, Nat.reduceEqDiff, Nat.reduceAdd, Nat.reduceMul, Nat.reduceSub, Nat.reduceLeDiff, reduceCtorEq, hc, hw, hx, hy, rfD_eqc])
    | (with_reducible refine aw_if ?_; simp only [go_sem, reduceIte, Nat.reduceLT, Nat.reduceEqDiff, Nat.reduceAdd, Nat.reduceMul, Nat.reduceSub, Nat.reduceLeDiff, reduceCtorEq, hc, hw, hx, hy, rfD_eqc])
    | (with_reducible refine aw_block ?_)
    | (with_reducible refine aw_ret ?_; (try simp only [thenQ, blockQ]); refine aw_ret' ?_; simp only [go_sem, reduceIte, Nat.reduceLT, Nat.reduceEqDiff, Nat.reduceAdd, Nat.reduceMul, Nat.reduceSub, Nat.reduceLeDiff, reduceCtorEq, hc, hw, hx, hy, rfD_eqc])
    | (with_reducible refine aw_exit ?_; simp only [thenQ, blockQ, reduceIte, Nat.reduceEqDiff])
    | (with_reducible refine aw_skip ?_; simp only [thenQ, blockQ])
    | (with_reducible refine gate_intro (fun h => ?_) (fun h => ?_) <;> simp only [h, go_sem, reduceIte, Nat.reduceLT, Nat.reduceEqDiff, Nat.reduceAdd, Nat.reduceMul, Nat.reduceSub, Nat.reduceLeDiff, reduceCtorEq, hc, hw, hx, hy, rfD_eqc] <;> (try simp only [decide_eq_true_eq, decide_eq_false_iff_not, Bool.not_true] at h))
    | (with_reducible refine chk_in (by kernel_rfl) ?_)
    | (with_reducible refine And.intro (And.intro (by omega) (by omega)) ?_)
    | (with_reducible refine And.intro (by omega) ?_)
    | (rw [get_in]; rotate_left; omega; simp only [go_sem, reduceIte, Nat.reduceLT, Nat.reduceEqDiff, Nat.reduceAdd, Nat.reduceMul, Nat.reduceSub, Nat.reduceLeDiff, reduceCtorEq, hc, hw, hx, hy, rfD_eqc])
    | fail)
    · rw [decide_eq_false (fun he => by rw [(list_eq_iff hl).1 he i x y hx hy] at h; simp at h)]
    · exact ⟨i + 1, weak_in [] (by repeat' (first | trivial | constructor | rfl)) (by repeat' (first | trivial | constructor | rfl)) (by rfl) (by rfl) (by rfl), ⟨hlt, eq_upto hI hx hy (by simpa using h)⟩, by omega⟩
def finE (l : List Er) (c p : Int) : Option Er := l[fndE l c p]?
abbrev fiC : Con where
  α := List Er × Int × Int
  kinds := [false, false, false]
  args := fun a => [.d (.sl 4 (erR a.1)), .d (i64 a.2.1), .d (i64 a.2.2)]
  pre := fun a => a.1.length ≤ 1000000
  post := fun a r => r = ⟨[.d (.agg (erD ((finE a.1 a.2.1 a.2.2).getD ((0, 0, 0), false)))), .d (bl (finE a.1 a.2.1 a.2.2).isSome)], []⟩
  clean := true
theorem fi_ok : CallOk Try.prog 30 fiC := by
  refine ok_of_body' 31 3 Try.func30 rfl (by decide) Try.ntmps30 (by intro a h; exact ⟨rfl, rfl⟩) (by decide) (by rintro _ a r _ rfl; rfl) ?_
  rintro ⟨(l : List Er), c, p⟩ hl
  simp only [fiC] at hl ⊢
  simp only [initE, initMm, List.length_cons, List.length_nil, Nat.reduceAdd]
  repeat' (first
    | (with_reducible refine aw_seq ?_)
    | (with_reducible refine kont_in ?_; simp only [go_sem, reduceIte, Nat.reduceLT, Nat.reduceEqDiff, Nat.reduceAdd, Nat.reduceMul, Nat.reduceSub, Nat.reduceLeDiff, reduceCtorEq])
    | (with_reducible refine dKont_in ?_; simp only [go_sem, reduceIte, Nat.reduceLT, Nat.reduceEqDiff, Nat.reduceAdd, Nat.reduceMul, Nat.reduceSub, Nat.reduceLeDiff, reduceCtorEq])
    | (with_reducible refine aw_drw (by kernel_rfl) kOk_nil kDet_nil ?_; simp only [go_sem, reduceIte, Nat.reduceLT, Nat.reduceEqDiff, Nat.reduceAdd, Nat.reduceMul, Nat.reduceSub, Nat.reduceLeDiff, reduceCtorEq])
    | (with_reducible refine aw_reg kOk_nil ?_; simp only [go_sem, reduceIte, Nat.reduceLT, Nat.reduceEqDiff, Nat.reduceAdd, Nat.reduceMul, Nat.reduceSub, Nat.reduceLeDiff, reduceCtorEq])
    | (with_reducible refine aw_if ?_; simp only [go_sem, reduceIte, Nat.reduceLT, Nat.reduceEqDiff, Nat.reduceAdd, Nat.reduceMul, Nat.reduceSub, Nat.reduceLeDiff, reduceCtorEq])
    | (with_reducible refine aw_block ?_)
    | (with_reducible refine aw_ret ?_; (try simp only [thenQ, blockQ]); refine aw_ret' ?_; simp only [go_sem, reduceIte, Nat.reduceLT, Nat.reduceEqDiff, Nat.reduceAdd, Nat.reduceMul, Nat.reduceSub, Nat.reduceLeDiff, reduceCtorEq])
    | (with_reducible refine aw_exit ?_; simp only [thenQ, blockQ, reduceIte, Nat.reduceEqDiff])
    | (with_reducible refine aw_skip ?_; simp only [thenQ, blockQ])
    | (with_reducible refine gate_intro (fun h => ?_) (fun h => ?_) <;> simp only [h, go_sem, reduceIte, Nat.reduceLT, Nat.reduceEqDiff, Nat.reduceAdd, Nat.reduceMul, Nat.reduceSub, Nat.reduceLeDiff, reduceCtorEq] <;> (try simp only [decide_eq_true_eq, decide_eq_false_iff_not, Bool.not_true] at h))
    | (with_reducible refine chk_in (by kernel_rfl) ?_)
    | (with_reducible refine And.intro (And.intro (by omega) (by omega)) ?_)
    | (with_reducible refine And.intro (by omega) ?_)
    | (rw [get_in]; rotate_left; omega; simp only [go_sem, reduceIte, Nat.reduceLT, Nat.reduceEqDiff, Nat.reduceAdd, Nat.reduceMul, Nat.reduceSub, Nat.reduceLeDiff, reduceCtorEq])
    | fail)
  refine aw_rounds (α := Nat) (fun i => ⟨envOf [(12, i64 i), (11, i64 l.length), (10, .sl 4 (erR l)), (1, i64 c), (2, i64 p), (6, .box 100 0)], memOf [(100, .cells [i64 0, i64 0, i64 0, bl false])], 200⟩)
    (fun i => i ≤ l.length ∧ ∀ k e, k < i → l[k]? = some e → ¬ (e.1.1 = c ∧ e.1.2.2 = p)) (fun i => l.length - i) 0 ⟨Nat.zero_le _, fun k e h => by omega⟩ (weak_in [(100, _)] (by repeat' (first | trivial | constructor | rfl)) (by repeat' (first | trivial | constructor | rfl)) (by rfl) (by rfl) (by rfl)) ?_
  rintro i ⟨hi, hI⟩
  cases hx : l[i]? with
  | none =>
    have hge : l.length ≤ i := by simpa using hx
    have hc : decide ((i : Int) < (l.length : Int)) = false := by simp <;> omega
    have : i = l.length := by omega
    subst this
    repeat' (first
    | (with_reducible refine aw_seq ?_)
    | (with_reducible refine kont_in ?_; simp only [go_sem, reduceIte, Nat.reduceLT, Nat.reduceEqDiff, Nat.reduceAdd, Nat.reduceMul, Nat.reduceSub, Nat.reduceLeDiff, reduceCtorEq, hc])
    | (with_reducible refine dKont_in ?_; simp only [go_sem, reduceIte, Nat.reduceLT, Nat.reduceEqDiff, Nat.reduceAdd, Nat.reduceMul, Nat.reduceSub, Nat.reduceLeDiff, reduceCtorEq, hc])
    | (with_reducible refine aw_drw (by kernel_rfl) kOk_nil kDet_nil ?_; simp only [go_sem, reduceIte, Nat.reduceLT, Nat.reduceEqDiff, Nat.reduceAdd, Nat.reduceMul, Nat.reduceSub, Nat.reduceLeDiff, reduceCtorEq, hc])
    | (with_reducible refine aw_reg kOk_nil ?_; simp only [go_sem, reduceIte, Nat.reduceLT, Nat.reduceEqDiff, Nat.reduceAdd, Nat.reduceMul, Nat.reduceSub, Nat.reduceLeDiff, reduceCtorEq, hc])
    | (with_reducible refine aw_if ?_; simp only [go_sem, reduceIte, Nat.reduceLT, Nat.reduceEqDiff, Nat.reduceAdd, Nat.reduceMul, Nat.reduceSub, Nat.reduceLeDiff, reduceCtorEq, hc])
    | (with_reducible refine aw_block ?_)
    | (with_reducible refine aw_ret ?_; (try simp only [thenQ, blockQ]); refine aw_ret' ?_; simp only [go_sem, reduceIte, Nat.reduceLT, Nat.reduceEqDiff, Nat.reduceAdd, Nat.reduceMul, Nat.reduceSub, Nat.reduceLeDiff, reduceCtorEq, hc])
    | (with_reducible refine aw_exit ?_; simp only [thenQ, blockQ, reduceIte, Nat.reduceEqDiff])
    | (with_reducible refine aw_skip ?_; simp only [thenQ, blockQ])
    | (with_reducible refine gate_intro (fun h => ?_) (fun h => ?_) <;> simp only [h, go_sem, reduceIte, Nat.reduceLT, Nat.reduceEqDiff, Nat.reduceAdd, Nat.reduceMul, Nat.reduceSub, Nat.reduceLeDiff, reduceCtorEq, hc] <;> (try simp only [decide_eq_true_eq, decide_eq_false_iff_not, Bool.not_true] at h))
    | (with_reducible refine chk_in (by kernel_rfl) ?_)
    | (with_reducible refine And.intro (And.intro (by omega) (by omega)) ?_)
    | (with_reducible refine And.intro (by omega) ?_)
    | (rw [get_in]; rotate_left; omega; simp only [go_sem, reduceIte, Nat.reduceLT, Nat.reduceEqDiff, Nat.reduceAdd, Nat.reduceMul, Nat.reduceSub, Nat.reduceLeDiff, reduceCtorEq, hc])
    | fail)
    have : finE l c p = none := by rw [finE, fndE_is hi hI (fun e he => by rw [hx] at he; cases he)]; exact hx
    rw [this]; rfl
  | some x =>
    have hlt : i < l.length := (List.getElem?_eq_some_iff.1 hx).1
    have hc : decide ((i : Int) < (l.length : Int)) = true := by simp <;> omega
    have hw := wrS (i := i) (by omega)
    obtain ⟨⟨x1, x2, x3⟩, x4⟩ := x
    repeat' (first
    | (with_reducible refine aw_seq ?_)
    | (with_reducible refine kont_in ?_; simp only [go_sem, reduceIte, Nat.reduceLT, Nat.reduceEqDiff, Nat.reduceAdd, Nat.reduceMul, Nat.reduceSub, Nat.reduceLeDiff, reduceCtorEq, hc, hw, hx, erD])
    | (with_reducible refine dKont_in ?_; simp only [go_sem, reduceIte, Nat.reduceLT, Nat.reduceEqDiff, Nat.reduceAdd, Nat.reduceMul, Nat.reduceSub, Nat.reduceLeDiff, reduceCtorEq, hc, hw, hx, erD])
    | (with_reducible refine aw_drw (by kernel_rfl) kOk_nil kDet_nil ?_; simp only [go_sem, reduceIte, Nat.reduceLT, Nat.reduceEqDiff, Nat.reduceAdd, Nat.reduceMul, Nat.reduceSub, Nat.reduceLeDiff, reduceCtorEq, hc, hw, hx, erD])
    | (with_reducible refine aw_reg kOk_nil ?_; simp only [go_sem, reduceIte, Nat.reduceLT, Nat.reduceEqDiff, Nat.reduceAdd, Nat.reduceMul, Nat.reduceSub, Nat.reduceLeDiff, reduceCtorEq, hc, hw, hx, erD])
    | (with_reducible refine aw_if ?_; simp only [go_sem, reduceIte, Nat.reduceLT, Nat.reduceEqDiff, Nat.reduceAdd, Nat.reduceMul, Nat.reduceSub, Nat.reduceLeDiff, reduceCtorEq, hc, hw, hx, erD])
    | (with_reducible refine aw_block ?_)
    | (with_reducible refine aw_ret ?_; (try simp only [thenQ, blockQ]); refine aw_ret' ?_; simp only [go_sem, reduceIte, Nat.reduceLT, Nat.reduceEqDiff, Nat.reduceAdd, Nat.reduceMul, Nat.reduceSub, Nat.reduceLeDiff, reduceCtorEq, hc, hw, hx, erD])
    | (with_reducible refine aw_exit ?_; simp only [thenQ, blockQ, reduceIte, Nat.reduceEqDiff])
    | (with_reducible refine aw_skip ?_; simp only [thenQ, blockQ])
    | (with_reducible refine gate_intro (fun h => ?_) (fun h => ?_) <;> simp only [h, go_sem, reduceIte, Nat.reduceLT, Nat.reduceEqDiff, Nat.reduceAdd, Nat.reduceMul, Nat.reduceSub, Nat.reduceLeDiff, reduceCtorEq, hc, hw, hx, erD] <;> (try simp only [decide_eq_true_eq, decide_eq_false_iff_not, Bool.not_true] at h))
    | (with_reducible refine chk_in (by kernel_rfl) ?_)
    | (with_reducible refine And.intro (And.intro (by omega) (by omega)) ?_)
    | (with_reducible refine And.intro (by omega) ?_)
    | (rw [get_in]; rotate_left; omega; simp only [go_sem, reduceIte, Nat.reduceLT, Nat.reduceEqDiff, Nat.reduceAdd, Nat.reduceMul, Nat.reduceSub, Nat.reduceLeDiff, reduceCtorEq, hc, hw, hx, erD])
    | fail)
    · rename_i h1
      have : finE l c p = some ((x1, x2, x3), x4) := by rw [finE, fndE_is hi hI (fun e he => by rw [hx] at he; cases he; exact ⟨by simpa using h1, by simpa using h⟩)]; exact hx
      rw [this]; rfl
    · exact ⟨i + 1, weak_in [(100, 100)] (by repeat' (first | trivial | constructor | rfl)) (by repeat' (first | trivial | constructor | rfl)) (by rfl) (by rfl) (by rfl), ⟨hlt, all_next (P := fun e => ¬ (e.1.1 = c ∧ e.1.2.2 = p)) hI hx (fun hh => by simp at h; exact h hh.2)⟩, by omega⟩
    · exact ⟨i + 1, weak_in [(100, 100)] (by repeat' (first | trivial | constructor | rfl)) (by repeat' (first | trivial | constructor | rfl)) (by rfl) (by rfl) (by rfl), ⟨hlt, all_next (P := fun e => ¬ (e.1.1 = c ∧ e.1.2.2 = p)) hI hx (fun hh => by simp at h; exact h hh.1)⟩, by omega⟩
theorem fndE_le (l : List Er) (c p : Int) : fndE l c p ≤ l.length := List.findIdx_le_length
theorem rfi_ok : CallOk Try.prog 32 fiC := by
  refine ok_of_body' 20 3 Try.func32 rfl (by decide) Try.ntmps32 (by intro a h; exact ⟨rfl, rfl⟩) (by decide) (by rintro _ a r _ rfl; rfl) ?_
  rintro ⟨(l : List Er), c, p⟩ hl
  simp only [fiC] at hl ⊢
  simp only [initE, initMm, List.length_cons, List.length_nil, Nat.reduceAdd]
  have s1 : ixC.srt = none := rfl
  have c1 : ixC.clean = true := rfl
  have hK : KOk Try.prog (kOf [(53, ixC)]) := kOk_cons ix_ok kOk_nil
  have hD : KDet (kOf [(53, ixC)]) := kDet_cons (fun _ _ => ⟨_, rfl, by simp, fun _ h => h⟩) kDet_nil
  have hle := fndE_le l c p
  by_cases hlt : fndE l c p < l.length
  · have hix : ixE l c p = fndE l c p := by rw [ixE, if_pos hlt]
    obtain ⟨e, hx⟩ : ∃ e, l[fndE l c p]? = some e := ⟨_, List.getElem?_eq_getElem hlt⟩
    have q1 : decide ((fndE l c p : Int) < 0) = false := by simp
    have hfi : finE l c p = some e := hx
    rw [hfi]
    generalize fndE l c p = q at *
    repeat' (first
    | (with_reducible refine aw_seq ?_)
    | (with_reducible refine kont_in ?_; simp only [go_sem, reduceIte, Nat.reduceLT, Nat.reduceEqDiff, Nat.reduceAdd, Nat.reduceMul, Nat.reduceSub, Nat.reduceLeDiff, reduceCtorEq, s1, c1, hix, q1, hx])
    | (with_reducible refine dKont_in ?_; simp only [go_sem, reduceIte, Nat.reduceLT, Nat.reduceEqDiff, Nat.reduceAdd, Nat.reduceMul, Nat.reduceSub, Nat.reduceLeDiff, reduceCtorEq, s1, c1, hix, q1, hx])
    | (with_reducible refine aw_drw (by kernel_rfl) hK hD ?_; simp only [go_sem, reduceIte, Nat.reduceLT, Nat.reduceEqDiff, Nat.reduceAdd, Nat.reduceMul, Nat.reduceSub, Nat.reduceLeDiff, reduceCtorEq, s1, c1, hix, q1, hx])
    | (with_reducible refine aw_reg hK ?_; simp only [go_sem, reduceIte, Nat.reduceLT, Nat.reduceEqDiff, Nat.reduceAdd, Nat.reduceMul, Nat.reduceSub, Nat.reduceLeDiff, reduceCtorEq, s1, c1, hix, q1, hx])
    | (with_reducible refine aw_if ?_; simp only [go_sem, reduceIte, Nat.reduceLT, Nat.reduceEqDiff, Nat.reduceAdd, Nat.reduceMul, Nat.reduceSub, Nat.reduceLeDiff, reduceCtorEq, s1, c1, hix, q1, hx])
    | (with_reducible refine aw_block ?_)
    | (with_reducible refine aw_ret ?_; (try simp only [thenQ, blockQ]); refine aw_ret' ?_; simp only [go_sem, reduceIte, Nat.reduceLT, Nat.reduceEqDiff, Nat.reduceAdd, Nat.reduceMul, Nat.reduceSub, Nat.reduceLeDiff, reduceCtorEq, s1, c1, hix, q1, hx])
    | (with_reducible refine aw_exit ?_; simp only [thenQ, blockQ, reduceIte, Nat.reduceEqDiff])
    | (with_reducible refine aw_skip ?_; simp only [thenQ, blockQ])
    | (with_reducible refine gate_intro (fun h => ?_) (fun h => ?_) <;> simp only [h, go_sem, reduceIte, Nat.reduceLT, Nat.reduceEqDiff, Nat.reduceAdd, Nat.reduceMul, Nat.reduceSub, Nat.reduceLeDiff, reduceCtorEq, s1, c1, hix, q1, hx] <;> (try simp only [decide_eq_true_eq, decide_eq_false_iff_not, Bool.not_true] at h))
    | (with_reducible refine chk_in (by kernel_rfl) ?_)
    | (with_reducible refine And.intro (And.intro (by omega) (by omega)) ?_)
    | (with_reducible refine And.intro (by omega) ?_)
    | (refine ix_call rfl l c p hl rfl ?_)
    | (rw [get_in]; rotate_left; omega; simp only [go_sem, reduceIte, Nat.reduceLT, Nat.reduceEqDiff, Nat.reduceAdd, Nat.reduceMul, Nat.reduceSub, Nat.reduceLeDiff, reduceCtorEq, s1, c1, hix, q1, hx])
    | fail)
    rfl
  · have hix : ixE l c p = -1 := by rw [ixE, if_neg hlt]
    have hfi : finE l c p = none := List.getElem?_eq_none (by omega)
    rw [hfi]
    have q1 : decide ((-1 : Int) < 0) = true := rfl
    repeat' (first
    | (with_reducible refine aw_seq ?_)
    | (with_reducible refine kont_in ?_; simp only [go_sem, reduceIte, Nat.reduceLT, Nat.reduceEqDiff, Nat.reduceAdd, Nat.reduceMul, Nat.reduceSub, Nat.reduceLeDiff, reduceCtorEq, s1, c1, hix, q1])
    | (with_reducible refine dKont_in ?_; simp only [go_sem, reduceIte, Nat.reduceLT, Nat.reduceEqDiff, Nat.reduceAdd, Nat.reduceMul, Nat.reduceSub, Nat.reduceLeDiff, reduceCtorEq, s1, c1, hix, q1])
    | (with_reducible refine aw_drw (by kernel_rfl) hK hD ?_; simp only [go_sem, reduceIte, Nat.reduceLT, Nat.reduceEqDiff, Nat.reduceAdd, Nat.reduceMul, Nat.reduceSub, Nat.reduceLeDiff, reduceCtorEq, s1, c1, hix, q1])
    | (with_reducible refine aw_reg hK ?_; simp only [go_sem, reduceIte, Nat.reduceLT, Nat.reduceEqDiff, Nat.reduceAdd, Nat.reduceMul, Nat.reduceSub, Nat.reduceLeDiff, reduceCtorEq, s1, c1, hix, q1])
    | (with_reducible refine aw_if ?_; simp only [go_sem, reduceIte, Nat.reduceLT, Nat.reduceEqDiff, Nat.reduceAdd, Nat.reduceMul, Nat.reduceSub, Nat.reduceLeDiff, reduceCtorEq, s1, c1, hix, q1])
    | (with_reducible refine aw_block ?_)
    | (with_reducible refine aw_ret ?_; (try simp only [thenQ, blockQ]); refine aw_ret' ?_; simp only [go_sem, reduceIte, Nat.reduceLT, Nat.reduceEqDiff, Nat.reduceAdd, Nat.reduceMul, Nat.reduceSub, Nat.reduceLeDiff, reduceCtorEq, s1, c1, hix, q1])
    | (with_reducible refine aw_exit ?_; simp only [thenQ, blockQ, reduceIte, Nat.reduceEqDiff])
    | (with_reducible refine aw_skip ?_; simp only [thenQ, blockQ])
    | (with_reducible refine gate_intro (fun h => ?_) (fun h => ?_) <;> simp only [h, go_sem, reduceIte, Nat.reduceLT, Nat.reduceEqDiff, Nat.reduceAdd, Nat.reduceMul, Nat.reduceSub, Nat.reduceLeDiff, reduceCtorEq, s1, c1, hix, q1] <;> (try simp only [decide_eq_true_eq, decide_eq_false_iff_not, Bool.not_true] at h))
    | (with_reducible refine chk_in (by kernel_rfl) ?_)
    | (with_reducible refine And.intro (And.intro (by omega) (by omega)) ?_)
    | (with_reducible refine And.intro (by omega) ?_)
    | (refine ix_call rfl l c p hl rfl ?_)
    | (rw [get_in]; rotate_left; omega; simp only [go_sem, reduceIte, Nat.reduceLT, Nat.reduceEqDiff, Nat.reduceAdd, Nat.reduceMul, Nat.reduceSub, Nat.reduceLeDiff, reduceCtorEq, s1, c1, hix, q1])
    | fail)
    all_goals rfl
abbrev papC : Con where
  α := List Er × Int
  kinds := [false, false]
  args := fun a => [.d (.sl 4 (erR a.1)), .d (i64 a.2)]
  pre := fun a => a.1.length ≤ 1000000
  post := fun a r => r = ⟨[.own 4 (erR (a.1.filter fun e => e.1.2.2 == a.2))], []⟩
  clean := true
theorem pap_ok : CallOk Try.prog 33 papC := by
  refine ok_of_body_own 25 2 Try.func33 rfl (by decide) Try.ntmps33 (by intro a h; exact ⟨rfl, rfl⟩) (by decide) (by rintro _ a r _ rfl; simpa [plainRD, plainD, plainC] using erR_plain _) ?_
  rintro ⟨(l : List Er), p⟩ hl
  simp only [papC] at hl ⊢
  simp only [initE, initMm, List.length_cons, List.length_nil, Nat.reduceAdd]
  repeat' (first
    | (with_reducible refine aw_seq ?_)
    | (with_reducible refine kont_in ?_; simp only [go_sem, reduceIte, Nat.reduceLT, Nat.reduceEqDiff, Nat.reduceAdd, Nat.reduceMul, Nat.reduceSub, Nat.reduceLeDiff, reduceCtorEq])
    | (with_reducible refine dKont_in ?_; simp only [go_sem, reduceIte, Nat.reduceLT, Nat.reduceEqDiff, Nat.reduceAdd, Nat.reduceMul, Nat.reduceSub, Nat.reduceLeDiff, reduceCtorEq])
    | (with_reducible refine aw_drw (by kernel_rfl) kOk_nil kDet_nil ?_; simp only [go_sem, reduceIte, Nat.reduceLT, Nat.reduceEqDiff, Nat.reduceAdd, Nat.reduceMul, Nat.reduceSub, Nat.reduceLeDiff, reduceCtorEq])
    | (with_reducible refine aw_reg kOk_nil ?_; simp only [go_sem, reduceIte, Nat.reduceLT, Nat.reduceEqDiff, Nat.reduceAdd, Nat.reduceMul, Nat.reduceSub, Nat.reduceLeDiff, reduceCtorEq])
    | (with_reducible refine aw_if ?_; simp only [go_sem, reduceIte, Nat.reduceLT, Nat.reduceEqDiff, Nat.reduceAdd, Nat.reduceMul, Nat.reduceSub, Nat.reduceLeDiff, reduceCtorEq])
    | (with_reducible refine aw_block ?_)
    | (with_reducible refine aw_ret ?_; (try simp only [thenQ, blockQ]); refine aw_ret' ?_; simp only [go_sem, reduceIte, Nat.reduceLT, Nat.reduceEqDiff, Nat.reduceAdd, Nat.reduceMul, Nat.reduceSub, Nat.reduceLeDiff, reduceCtorEq])
    | (with_reducible refine aw_exit ?_; simp only [thenQ, blockQ, reduceIte, Nat.reduceEqDiff])
    | (with_reducible refine aw_skip ?_; simp only [thenQ, blockQ])
    | (with_reducible refine gate_intro (fun h => ?_) (fun h => ?_) <;> simp only [h, go_sem, reduceIte, Nat.reduceLT, Nat.reduceEqDiff, Nat.reduceAdd, Nat.reduceMul, Nat.reduceSub, Nat.reduceLeDiff, reduceCtorEq] <;> (try simp only [decide_eq_true_eq, decide_eq_false_iff_not, Bool.not_true] at h))
    | (with_reducible refine chk_in (by kernel_rfl) ?_)
    | (with_reducible refine And.intro (And.intro (by omega) (by omega)) ?_)
    | (with_reducible refine And.intro (by omega) ?_)
    | (rw [get_in]; rotate_left; omega; simp only [go_sem, reduceIte, Nat.reduceLT, Nat.reduceEqDiff, Nat.reduceAdd, Nat.reduceMul, Nat.reduceSub, Nat.reduceLeDiff, reduceCtorEq])
    | fail)
  refine aw_nil 5 400 4 rfl rfl ?_
  refine aw_rounds (α := Nat) (fun i => ⟨envOf [(10, i64 i), (9, i64 l.length), (8, .sl 4 (erR l)), (1, i64 p), (5, .row 100)], memOf [(100, .row 4 (erR ((l.take i).filter fun e => e.1.2.2 == p)) true)], 200⟩)
    (fun i => i ≤ l.length) (fun i => l.length - i) 0 (Nat.zero_le _) (weak_in [(100, 400)] (by repeat' (first | trivial | constructor | rfl)) (by repeat' (first | trivial | constructor | rfl)) (by rfl) (by rfl) (by rfl)) ?_
  intro i hi
  have hfl : ((l.take i).filter fun e => e.1.2.2 == p).length ≤ i := Nat.le_trans (List.length_filter_le _ _) (by simp; omega)
  cases hx : l[i]? with
  | none =>
    have hge : l.length ≤ i := by simpa using hx
    have hc : decide ((i : Int) < (l.length : Int)) = false := by simp <;> omega
    repeat' (first
    | (with_reducible refine aw_seq ?_)
    | (with_reducible refine kont_in ?_; simp only [go_sem, reduceIte, Nat.reduceLT, Nat.reduceEqDiff, Nat.reduceAdd, Nat.reduceMul, Nat.reduceSub, Nat.reduceLeDiff, reduceCtorEq, hc])
    | (with_reducible refine dKont_in ?_; simp only [go_sem, reduceIte, Nat.reduceLT, Nat.reduceEqDiff, Nat.reduceAdd, Nat.reduceMul, Nat.reduceSub, Nat.reduceLeDiff, reduceCtorEq, hc])
    | (with_reducible refine aw_drw (by kernel_rfl) kOk_nil kDet_nil ?_; simp only [go_sem, reduceIte, Nat.reduceLT, Nat.reduceEqDiff, Nat.reduceAdd, Nat.reduceMul, Nat.reduceSub, Nat.reduceLeDiff, reduceCtorEq, hc])
    | (with_reducible refine aw_reg kOk_nil ?_; simp only [go_sem, reduceIte, Nat.reduceLT, Nat.reduceEqDiff, Nat.reduceAdd, Nat.reduceMul, Nat.reduceSub, Nat.reduceLeDiff, reduceCtorEq, hc])
    | (with_reducible refine aw_if ?_; simp only [go_sem, reduceIte, Nat.reduceLT, Nat.reduceEqDiff, Nat.reduceAdd, Nat.reduceMul, Nat.reduceSub, Nat.reduceLeDiff, reduceCtorEq, hc])
    | (with_reducible refine aw_block ?_)
    | (with_reducible refine aw_ret ?_; (try simp only [thenQ, blockQ]); refine aw_ret' ?_; simp only [go_sem, reduceIte, Nat.reduceLT, Nat.reduceEqDiff, Nat.reduceAdd, Nat.reduceMul, Nat.reduceSub, Nat.reduceLeDiff, reduceCtorEq, hc])
    | (with_reducible refine aw_exit ?_; simp only [thenQ, blockQ, reduceIte, Nat.reduceEqDiff])
    | (with_reducible refine aw_skip ?_; simp only [thenQ, blockQ])
    | (with_reducible refine gate_intro (fun h => ?_) (fun h => ?_) <;> simp only [h, go_sem, reduceIte, Nat.reduceLT, Nat.reduceEqDiff, Nat.reduceAdd, Nat.reduceMul, Nat.reduceSub, Nat.reduceLeDiff, reduceCtorEq, hc] <;> (try simp only [decide_eq_true_eq, decide_eq_false_iff_not, Bool.not_true] at h))
    | (with_reducible refine chk_in (by kernel_rfl) ?_)
    | (with_reducible refine And.intro (And.intro (by omega) (by omega)) ?_)
    | (with_reducible refine And.intro (by omega) ?_)
    | (rw [get_in]; rotate_left; omega; simp only [go_sem, reduceIte, Nat.reduceLT, Nat.reduceEqDiff, Nat.reduceAdd, Nat.reduceMul, Nat.reduceSub, Nat.reduceLeDiff, reduceCtorEq, hc])
    | fail)
    refine ⟨_, rfl, ?_, rfl⟩
    rw [List.take_of_length_le hge]; exact .refl _
  | some x =>
    have hlt : i < l.length := (List.getElem?_eq_some_iff.1 hx).1
    have hc : decide ((i : Int) < (l.length : Int)) = true := by simp <;> omega
    have hw := wrS (i := i) (by omega)
    have ht : l.take (i + 1) = l.take i ++ [x] := by rw [List.take_add_one, hx]; rfl
    cases hp : x.1.2.2 == p with
    | true =>
      have hf : (l.take (i + 1)).filter (fun e => e.1.2.2 == p) = (l.take i).filter (fun e => e.1.2.2 == p) ++ [x] := by rw [ht, List.filter_append, List.filter_cons_of_pos (p := fun e : Er => e.1.2.2 == p) hp, List.filter_nil]
      have hg : (erD x)[2]? = some (i64 x.1.2.2) := rfl
      repeat' (first
    | (with_reducible refine aw_seq ?_)
    | (with_reducible refine kont_in ?_; simp only [go_sem, reduceIte, Nat.reduceLT, Nat.reduceEqDiff, Nat.reduceAdd, Nat.reduceMul, Nat.reduceSub, Nat.reduceLeDiff, reduceCtorEq, hc, hw, hx, hg, hp])
    | (with_reducible refine dKont_in ?_; simp only [go_sem, reduceIte, Nat.reduceLT, Nat.reduceEqDiff, Nat.reduceAdd, Nat.reduceMul, Nat.reduceSub, Nat.reduceLeDiff, reduceCtorEq, hc, hw, hx, hg, hp])
    | (with_reducible refine aw_drw (by kernel_rfl) kOk_nil kDet_nil ?_; simp only [go_sem, reduceIte, Nat.reduceLT, Nat.reduceEqDiff, Nat.reduceAdd, Nat.reduceMul, Nat.reduceSub, Nat.reduceLeDiff, reduceCtorEq, hc, hw, hx, hg, hp])
    | (with_reducible refine aw_reg kOk_nil ?_; simp only [go_sem, reduceIte, Nat.reduceLT, Nat.reduceEqDiff, Nat.reduceAdd, Nat.reduceMul, Nat.reduceSub, Nat.reduceLeDiff, reduceCtorEq, hc, hw, hx, hg, hp])
    | (with_reducible refine aw_if ?_; simp only [go_sem, reduceIte, Nat.reduceLT, Nat.reduceEqDiff, Nat.reduceAdd, Nat.reduceMul, Nat.reduceSub, Nat.reduceLeDiff, reduceCtorEq, hc, hw, hx, hg, hp])
    | (with_reducible refine aw_block ?_)
    | (with_reducible refine aw_ret ?_; (try simp only [thenQ, blockQ]); refine aw_ret' ?_; simp only [go_sem, reduceIte, Nat.reduceLT, Nat.reduceEqDiff, Nat.reduceAdd, Nat.reduceMul, Nat.reduceSub, Nat.reduceLeDiff, reduceCtorEq, hc, hw, hx, hg, hp])
    | (with_reducible refine aw_exit ?_; simp only [thenQ, blockQ, reduceIte, Nat.reduceEqDiff])
    | (with_reducible refine aw_skip ?_; simp only [thenQ, blockQ])
    | (with_reducible refine gate_intro (fun h => ?_) (fun h => ?_) <;> simp only [h, go_sem, reduceIte, Nat.reduceLT, Nat.reduceEqDiff, Nat.reduceAdd, Nat.reduceMul, Nat.reduceSub, Nat.reduceLeDiff, reduceCtorEq, hc, hw, hx, hg, hp] <;> (try simp only [decide_eq_true_eq, decide_eq_false_iff_not, Bool.not_true] at h))
    | (with_reducible refine chk_in (by kernel_rfl) ?_)
    | (with_reducible refine And.intro (And.intro (by omega) (by omega)) ?_)
    | (with_reducible refine And.intro (by omega) ?_)
    | (rw [get_in]; rotate_left; omega; simp only [go_sem, reduceIte, Nat.reduceLT, Nat.reduceEqDiff, Nat.reduceAdd, Nat.reduceMul, Nat.reduceSub, Nat.reduceLeDiff, reduceCtorEq, hc, hw, hx, hg, hp])
    | fail)
      refine ⟨i + 1, ?_, hlt, by omega⟩
      rw [hf]; exact weak_in [(100, _)] (by repeat' (first | trivial | constructor | rfl)) (by repeat' (first | trivial | constructor | rfl)) (by rfl) (by rfl) (by rfl)
    | false =>
      have hf : (l.take (i + 1)).filter (fun e => e.1.2.2 == p) = (l.take i).filter (fun e => e.1.2.2 == p) := by rw [ht, List.filter_append, List.filter_cons_of_neg (by simp [hp]), List.filter_nil, List.append_nil]
      have hg : (erD x)[2]? = some (i64 x.1.2.2) := rfl
      repeat' (first
    | (with_reducible refine aw_seq ?_)
    | (with_reducible refine kont_in ?_; simp only [go_sem, reduceIte, Nat.reduceLT, Nat.reduceEqDiff, Nat.reduceAdd, Nat.reduceMul, Nat.reduceSub, Nat.reduceLeDiff, reduceCtorEq, hc, hw, hx, hg, hp])
    | (with_reducible refine dKont_in ?_; simp only [go_sem, reduceIte, Nat.reduceLT, Nat.reduceEqDiff, Nat.reduceAdd, Nat.reduceMul, Nat.reduceSub, Nat.reduceLeDiff, reduceCtorEq, hc, hw, hx, hg, hp])
    | (with_reducible refine aw_drw (by kernel_rfl) kOk_nil kDet_nil ?_; simp only [go_sem, reduceIte, Nat.reduceLT, Nat.reduceEqDiff, Nat.reduceAdd, Nat.reduceMul, Nat.reduceSub, Nat.reduceLeDiff, reduceCtorEq, hc, hw, hx, hg, hp])
    | (with_reducible refine aw_reg kOk_nil ?_; simp only [go_sem, reduceIte, Nat.reduceLT, Nat.reduceEqDiff, Nat.reduceAdd, Nat.reduceMul, Nat.reduceSub, Nat.reduceLeDiff, reduceCtorEq, hc, hw, hx, hg, hp])
    | (with_reducible refine aw_if ?_; simp only [go_sem, reduceIte, Nat.reduceLT, Nat.reduceEqDiff, Nat.reduceAdd, Nat.reduceMul, Nat.reduceSub, Nat.reduceLeDiff, reduceCtorEq, hc, hw, hx, hg, hp])
    | (with_reducible refine aw_block ?_)
    | (with_reducible refine aw_ret ?_; (try simp only [thenQ, blockQ]); refine aw_ret' ?_; simp only [go_sem, reduceIte, Nat.reduceLT, Nat.reduceEqDiff, Nat.reduceAdd, Nat.reduceMul, Nat.reduceSub, Nat.reduceLeDiff, reduceCtorEq, hc, hw, hx, hg, hp])
    | (with_reducible refine aw_exit ?_; simp only [thenQ, blockQ, reduceIte, Nat.reduceEqDiff])
    | (with_reducible refine aw_skip ?_; simp only [thenQ, blockQ])
    | (with_reducible refine gate_intro (fun h => ?_) (fun h => ?_) <;> simp only [h, go_sem, reduceIte, Nat.reduceLT, Nat.reduceEqDiff, Nat.reduceAdd, Nat.reduceMul, Nat.reduceSub, Nat.reduceLeDiff, reduceCtorEq, hc, hw, hx, hg, hp] <;> (try simp only [decide_eq_true_eq, decide_eq_false_iff_not, Bool.not_true] at h))
    | (with_reducible refine chk_in (by kernel_rfl) ?_)
    | (with_reducible refine And.intro (And.intro (by omega) (by omega)) ?_)
    | (with_reducible refine And.intro (by omega) ?_)
    | (rw [get_in]; rotate_left; omega; simp only [go_sem, reduceIte, Nat.reduceLT, Nat.reduceEqDiff, Nat.reduceAdd, Nat.reduceMul, Nat.reduceSub, Nat.reduceLeDiff, reduceCtorEq, hc, hw, hx, hg, hp])
    | fail)
      refine ⟨i + 1, ?_, hlt, by omega⟩
      rw [hf]; exact weak_in [(100, 100)] (by repeat' (first | trivial | constructor | rfl)) (by repeat' (first | trivial | constructor | rfl)) (by rfl) (by rfl) (by rfl)
theorem rpap_ok : CallOk Try.prog 34 papC := by
  refine ok_of_body_own 29 2 Try.func34 rfl (by decide) Try.ntmps34 (by intro a h; exact ⟨rfl, rfl⟩) (by decide) (by rintro _ a r _ rfl; simpa [plainRD, plainD, plainC] using erR_plain _) ?_
  rintro ⟨(l : List Er), p⟩ hl
  simp only [papC] at hl ⊢
  simp only [initE, initMm, List.length_cons, List.length_nil, Nat.reduceAdd]
  repeat' (first
    | (with_reducible refine aw_seq ?_)
    | (with_reducible refine kont_in ?_; simp only [go_sem, reduceIte, Nat.reduceLT, Nat.reduceEqDiff, Nat.reduceAdd, Nat.reduceMul, Nat.reduceSub, Nat.reduceLeDiff, reduceCtorEq])
    | (with_reducible refine dKont_in ?_; simp only [go_sem, reduceIte, Nat.reduceLT, Nat.reduceEqDiff, Nat.reduceAdd, Nat.reduceMul, Nat.reduceSub, Nat.reduceLeDiff, reduceCtorEq])
    | (with_reducible refine aw_drw (by kernel_rfl) kOk_nil kDet_nil ?_; simp only [go_sem, reduceIte, Nat.reduceLT, Nat.reduceEqDiff, Nat.reduceAdd, Nat.reduceMul, Nat.reduceSub, Nat.reduceLeDiff, reduceCtorEq])
    | (with_reducible refine aw_reg kOk_nil ?_; simp only [go_sem, reduceIte, Nat.reduceLT, Nat.reduceEqDiff, Nat.reduceAdd, Nat.reduceMul, Nat.reduceSub, Nat.reduceLeDiff, reduceCtorEq])
    | (with_reducible refine aw_if ?_; simp only [go_sem, reduceIte, Nat.reduceLT, Nat.reduceEqDiff, Nat.reduceAdd, Nat.reduceMul, Nat.reduceSub, Nat.reduceLeDiff, reduceCtorEq])
    | (with_reducible refine aw_block ?_)
    | (with_reducible refine aw_ret ?_; (try simp only [thenQ, blockQ]); refine aw_ret' ?_; simp only [go_sem, reduceIte, Nat.reduceLT, Nat.reduceEqDiff, Nat.reduceAdd, Nat.reduceMul, Nat.reduceSub, Nat.reduceLeDiff, reduceCtorEq])
    | (with_reducible refine aw_exit ?_; simp only [thenQ, blockQ, reduceIte, Nat.reduceEqDiff])
    | (with_reducible refine aw_skip ?_; simp only [thenQ, blockQ])
    | (with_reducible refine gate_intro (fun h => ?_) (fun h => ?_) <;> simp only [h, go_sem, reduceIte, Nat.reduceLT, Nat.reduceEqDiff, Nat.reduceAdd, Nat.reduceMul, Nat.reduceSub, Nat.reduceLeDiff, reduceCtorEq] <;> (try simp only [decide_eq_true_eq, decide_eq_false_iff_not, Bool.not_true] at h))
    | (with_reducible refine chk_in (by kernel_rfl) ?_)
    | (with_reducible refine And.intro (And.intro (by omega) (by omega)) ?_)
    | (with_reducible refine And.intro (by omega) ?_)
    | (rw [get_in]; rotate_left; omega; simp only [go_sem, reduceIte, Nat.reduceLT, Nat.reduceEqDiff, Nat.reduceAdd, Nat.reduceMul, Nat.reduceSub, Nat.reduceLeDiff, reduceCtorEq])
    | fail)
  refine aw_nil 5 400 4 rfl rfl ?_
  refine aw_rounds (α := Nat) (fun i => ⟨envOf [(6, i64 i), (0, .sl 4 (erR l)), (1, i64 p), (5, .row 100)], memOf [(100, .row 4 (erR ((l.take i).filter fun e => e.1.2.2 == p)) true)], 200⟩)
    (fun i => i ≤ l.length) (fun i => l.length - i) 0 (Nat.zero_le _) (weak_in [(100, 400)] (by repeat' (first | trivial | constructor | rfl)) (by repeat' (first | trivial | constructor | rfl)) (by rfl) (by rfl) (by rfl)) ?_
  intro i hi
  have hfl : ((l.take i).filter fun e => e.1.2.2 == p).length ≤ i := Nat.le_trans (List.length_filter_le _ _) (by simp; omega)
  cases hx : l[i]? with
  | none =>
    have hge : l.length ≤ i := by simpa using hx
    have hc : decide ((i : Int) < (l.length : Int)) = false := by simp <;> omega
    repeat' (first
    | (with_reducible refine aw_seq ?_)
    | (with_reducible refine kont_in ?_; simp only [go_sem, reduceIte, Nat.reduceLT, Nat.reduceEqDiff, Nat.reduceAdd, Nat.reduceMul, Nat.reduceSub, Nat.reduceLeDiff, reduceCtorEq, hc])
    | (with_reducible refine dKont_in ?_; simp only [go_sem, reduceIte, Nat.reduceLT, Nat.reduceEqDiff, Nat.reduceAdd, Nat.reduceMul, Nat.reduceSub, Nat.reduceLeDiff, reduceCtorEq, hc])
    | (with_reducible refine aw_drw (by kernel_rfl) kOk_nil kDet_nil ?_; simp only [go_sem, reduceIte, Nat.reduceLT, Nat.reduceEqDiff, Nat.reduceAdd, Nat.reduceMul, Nat.reduceSub, Nat.reduceLeDiff, reduceCtorEq, hc])
    | (with_reducible refine aw_reg kOk_nil ?_; simp only [go_sem, reduceIte, Nat.reduceLT, Nat.reduceEqDiff, Nat.reduceAdd, Nat.reduceMul, Nat.reduceSub, Nat.reduceLeDiff, reduceCtorEq, hc])
    | (with_reducible refine aw_if ?_; simp only [go_sem, reduceIte, Nat.reduceLT, Nat.reduceEqDiff, Nat.reduceAdd, Nat.reduceMul, Nat.reduceSub, Nat.reduceLeDiff, reduceCtorEq, hc])
    | (with_reducible refine aw_block ?_)
    | (with_reducible refine aw_ret ?_; (try simp only [thenQ, blockQ]); refine aw_ret' ?_; simp only [go_sem, reduceIte, Nat.reduceLT, Nat.reduceEqDiff, Nat.reduceAdd, Nat.reduceMul, Nat.reduceSub, Nat.reduceLeDiff, reduceCtorEq, hc])
    | (with_reducible refine aw_exit ?_; simp only [thenQ, blockQ, reduceIte, Nat.reduceEqDiff])
    | (with_reducible refine aw_skip ?_; simp only [thenQ, blockQ])
    | (with_reducible refine gate_intro (fun h => ?_) (fun h => ?_) <;> simp only [h, go_sem, reduceIte, Nat.reduceLT, Nat.reduceEqDiff, Nat.reduceAdd, Nat.reduceMul, Nat.reduceSub, Nat.reduceLeDiff, reduceCtorEq, hc] <;> (try simp only [decide_eq_true_eq, decide_eq_false_iff_not, Bool.not_true] at h))
    | (with_reducible refine chk_in (by kernel_rfl) ?_)
    | (with_reducible refine And.intro (And.intro (by omega) (by omega)) ?_)
    | (with_reducible refine And.intro (by omega) ?_)
    | (rw [get_in]; rotate_left; omega; simp only [go_sem, reduceIte, Nat.reduceLT, Nat.reduceEqDiff, Nat.reduceAdd, Nat.reduceMul, Nat.reduceSub, Nat.reduceLeDiff, reduceCtorEq, hc])
    | fail)
    refine ⟨_, rfl, ?_, rfl⟩
    rw [List.take_of_length_le hge]; exact .refl _
  | some x =>
    have hlt : i < l.length := (List.getElem?_eq_some_iff.1 hx).1
    have hc : decide ((i : Int) < (l.length : Int)) = true := by simp <;> omega
    have hw := wrS (i := i) (by omega)
    have ht : l.take (i + 1) = l.take i ++ [x] := by rw [List.take_add_one, hx]; rfl
    have hg : (erD x)[2]? = some (i64 x.1.2.2) := rfl
    cases hp : x.1.2.2 == p with
    | true =>
      have hf : (l.take (i + 1)).filter (fun e => e.1.2.2 == p) = (l.take i).filter (fun e => e.1.2.2 == p) ++ [x] := by rw [ht, List.filter_append, List.filter_cons_of_pos (p := fun e : Er => e.1.2.2 == p) hp, List.filter_nil]
      repeat' (first
    | (with_reducible refine aw_seq ?_)
    | (with_reducible refine kont_in ?_; simp only [go_sem, reduceIte, Nat.reduceLT, Nat.reduceEqDiff, Nat.reduceAdd, Nat.reduceMul, Nat.reduceSub, Nat.reduceLeDiff, reduceCtorEq, hc, hw, hx, hg, hp])
    | (with_reducible refine dKont_in ?_; simp only [go_sem, reduceIte, Nat.reduceLT, Nat.reduceEqDiff, Nat.reduceAdd, Nat.reduceMul, Nat.reduceSub, Nat.reduceLeDiff, reduceCtorEq, hc, hw, hx, hg, hp])
    | (with_reducible refine aw_drw (by kernel_rfl) kOk_nil kDet_nil ?_; simp only [go_sem, reduceIte, Nat.reduceLT, Nat.reduceEqDiff, Nat.reduceAdd, Nat.reduceMul, Nat.reduceSub, Nat.reduceLeDiff, reduceCtorEq, hc, hw, hx, hg, hp])
    | (with_reducible refine aw_reg kOk_nil ?_; simp only [go_sem, reduceIte, Nat.reduceLT, Nat.reduceEqDiff, Nat.reduceAdd, Nat.reduceMul, Nat.reduceSub, Nat.reduceLeDiff, reduceCtorEq, hc, hw, hx, hg, hp])
    | (with_reducible refine aw_if ?_; simp only [go_sem, reduceIte, Nat.reduceLT, Nat.reduceEqDiff, Nat.reduceAdd, Nat.reduceMul, Nat.reduceSub, Nat.reduceLeDiff, reduceCtorEq, hc, hw, hx, hg, hp])
    | (with_reducible refine aw_block ?_)
    | (with_reducible refine aw_ret ?_; (try simp only [thenQ, blockQ]); refine aw_ret' ?_; simp only [go_sem, reduceIte, Nat.reduceLT, Nat.reduceEqDiff, Nat.reduceAdd, Nat.reduceMul, Nat.reduceSub, Nat.reduceLeDiff, reduceCtorEq, hc, hw, hx, hg, hp])
    | (with_reducible refine aw_exit ?_; simp only [thenQ, blockQ, reduceIte, Nat.reduceEqDiff])
    | (with_reducible refine aw_skip ?_; simp only [thenQ, blockQ])
    | (with_reducible refine gate_intro (fun h => ?_) (fun h => ?_) <;> simp only [h, go_sem, reduceIte, Nat.reduceLT, Nat.reduceEqDiff, Nat.reduceAdd, Nat.reduceMul, Nat.reduceSub, Nat.reduceLeDiff, reduceCtorEq, hc, hw, hx, hg, hp] <;> (try simp only [decide_eq_true_eq, decide_eq_false_iff_not, Bool.not_true] at h))
    | (with_reducible refine chk_in (by kernel_rfl) ?_)
    | (with_reducible refine And.intro (And.intro (by omega) (by omega)) ?_)
    | (with_reducible refine And.intro (by omega) ?_)
    | (rw [get_in]; rotate_left; omega; simp only [go_sem, reduceIte, Nat.reduceLT, Nat.reduceEqDiff, Nat.reduceAdd, Nat.reduceMul, Nat.reduceSub, Nat.reduceLeDiff, reduceCtorEq, hc, hw, hx, hg, hp])
    | fail)
      refine ⟨i + 1, ?_, hlt, by omega⟩
      rw [hf]; exact weak_in [(100, _)] (by repeat' (first | trivial | constructor | rfl)) (by repeat' (first | trivial | constructor | rfl)) (by rfl) (by rfl) (by rfl)
    | false =>
      have hf : (l.take (i + 1)).filter (fun e => e.1.2.2 == p) = (l.take i).filter (fun e => e.1.2.2 == p) := by rw [ht, List.filter_append, List.filter_cons_of_neg (by simp [hp]), List.filter_nil, List.append_nil]
      repeat' (first
    | (with_reducible refine aw_seq ?_)
    | (with_reducible refine kont_in ?_; simp only [go_sem, reduceIte, Nat.reduceLT, Nat.reduceEqDiff, Nat.reduceAdd, Nat.reduceMul, Nat.reduceSub, Nat.reduceLeDiff, reduceCtorEq, hc, hw, hx, hg, hp])
    | (with_reducible refine dKont_in ?_; simp only [go_sem, reduceIte, Nat.reduceLT, Nat.reduceEqDiff, Nat.reduceAdd, Nat.reduceMul, Nat.reduceSub, Nat.reduceLeDiff, reduceCtorEq, hc, hw, hx, hg, hp])
    | (with_reducible refine aw_drw (by kernel_rfl) kOk_nil kDet_nil ?_; simp only [go_sem, reduceIte, Nat.reduceLT, Nat.reduceEqDiff, Nat.reduceAdd, Nat.reduceMul, Nat.reduceSub, Nat.reduceLeDiff, reduceCtorEq, hc, hw, hx, hg, hp])
    | (with_reducible refine aw_reg kOk_nil ?_; simp only [go_sem, reduceIte, Nat.reduceLT, Nat.reduceEqDiff, Nat.reduceAdd, Nat.reduceMul, Nat.reduceSub, Nat.reduceLeDiff, reduceCtorEq, hc, hw, hx, hg, hp])
    | (with_reducible refine aw_if ?_; simp only [go_sem, reduceIte, Nat.reduceLT, Nat.reduceEqDiff, Nat.reduceAdd, Nat.reduceMul, Nat.reduceSub, Nat.reduceLeDiff, reduceCtorEq, hc, hw, hx, hg, hp])
    | (with_reducible refine aw_block ?_)
    | (with_reducible refine aw_ret ?_; (try simp only [thenQ, blockQ]); refine aw_ret' ?_; simp only [go_sem, reduceIte, Nat.reduceLT, Nat.reduceEqDiff, Nat.reduceAdd, Nat.reduceMul, Nat.reduceSub, Nat.reduceLeDiff, reduceCtorEq, hc, hw, hx, hg, hp])
    | (with_reducible refine aw_exit ?_; simp only [thenQ, blockQ, reduceIte, Nat.reduceEqDiff])
    | (with_reducible refine aw_skip ?_; simp only [thenQ, blockQ])
    | (with_reducible refine gate_intro (fun h => ?_) (fun h => ?_) <;> simp only [h, go_sem, reduceIte, Nat.reduceLT, Nat.reduceEqDiff, Nat.reduceAdd, Nat.reduceMul, Nat.reduceSub, Nat.reduceLeDiff, reduceCtorEq, hc, hw, hx, hg, hp] <;> (try simp only [decide_eq_true_eq, decide_eq_false_iff_not, Bool.not_true] at h))
    | (with_reducible refine chk_in (by kernel_rfl) ?_)
    | (with_reducible refine And.intro (And.intro (by omega) (by omega)) ?_)
    | (with_reducible refine And.intro (by omega) ?_)
    | (rw [get_in]; rotate_left; omega; simp only [go_sem, reduceIte, Nat.reduceLT, Nat.reduceEqDiff, Nat.reduceAdd, Nat.reduceMul, Nat.reduceSub, Nat.reduceLeDiff, reduceCtorEq, hc, hw, hx, hg, hp])
    | fail)
      refine ⟨i + 1, ?_, hlt, by omega⟩
      rw [hf]; exact weak_in [(100, 100)] (by repeat' (first | trivial | constructor | rfl)) (by repeat' (first | trivial | constructor | rfl)) (by rfl) (by rfl) (by rfl)
end Go.Proofs.R1

/- Events of entries: the tape's lists. -/
set_option linter.unusedVariables false
set_option linter.unusedSimpArgs false
set_option maxRecDepth 8000
set_option maxHeartbeats 16000000
namespace Go.Proofs.R1
open Go Go.Abs

abbrev eeC : Con where
  α := Tp × Int × Int
  kinds := [true, false, false]
  args := fun a => [.io (tpD a.1), .d (i64 a.2.1), .d (i64 a.2.2)]
  pre := fun a => tpOk a.1 ∧ (0 ≤ a.2.1 ∧ a.2.1 ≤ 100) ∧ 0 ≤ a.2.2 ∧ a.2.2 ≤ 1000000
  post := fun a r => ∃ (l : List EE) (t : Tp), tpOk t ∧ (l.length : Int) ≤ 2 * a.2.1 ∧ r = ⟨[.own 8 (eeR l)], [tpD t]⟩
  clean := false
/-- A state within a round. -/
def eeI (most n : Int) (i : Nat) (c : Int) (l : List EE) (e : EE) (t : Tp) : S := ⟨envOf [(0, .box 0 0), (1, i64 most), (2, i64 n), (7, .row 100), (8, i64 ((i + 1 : Nat) : Int)), (9, i64 c), (10, .box 101 0)], memOf [(0, .cells (tpD t)), (100, .row 8 (eeR l) true), (101, .cells (eeD e))], 300⟩
theorem ee_ok : CallOk Try.prog 13 eeC := by
  refine ok_of_body_own 111 3 Try.func13 rfl (by decide) Try.ntmps13 (by intro a h; exact ⟨rfl, rfl⟩) (by decide) (by intro h; cases h) ?_
  rintro ⟨t, most, n⟩ ⟨h1, h2, h3⟩
  simp only [eeC] at h1 h2 h3 ⊢
  simp only [initE, initMm, List.length_cons, List.length_nil, Nat.reduceAdd]
  have hK : KOk Try.prog (kOf [(16, nextC), (25, rangeC), (37, stampC), (21, oneC), (35, pickC), (36, wildC), (28, cutC)]) := kOk_cons next_ok' (kOk_cons range_ok' (kOk_cons stampT_ok (kOk_cons one_ok (kOk_cons pick_ok (kOk_cons wild_ok (kOk_cons cut_ok kOk_nil))))))
  repeat' (first
    | (with_reducible refine aw_seq ?_)
    | (with_reducible refine kont_in ?_; simp only [go_sem, reduceIte, Nat.reduceLT, Nat.reduceEqDiff, Nat.reduceAdd, Nat.reduceMul, Nat.reduceSub, Nat.reduceLeDiff, reduceCtorEq, tp_frz, tp_fz])
    | (with_reducible refine dKont_in ?_; simp only [go_sem, reduceIte, Nat.reduceLT, Nat.reduceEqDiff, Nat.reduceAdd, Nat.reduceMul, Nat.reduceSub, Nat.reduceLeDiff, reduceCtorEq, tp_frz, tp_fz])
    | (with_reducible refine aw_drw (by kernel_rfl) hK kDet_nil ?_; simp only [go_sem, reduceIte, Nat.reduceLT, Nat.reduceEqDiff, Nat.reduceAdd, Nat.reduceMul, Nat.reduceSub, Nat.reduceLeDiff, reduceCtorEq, tp_frz, tp_fz])
    | (with_reducible refine aw_reg hK ?_; simp only [go_sem, reduceIte, Nat.reduceLT, Nat.reduceEqDiff, Nat.reduceAdd, Nat.reduceMul, Nat.reduceSub, Nat.reduceLeDiff, reduceCtorEq, tp_frz, tp_fz])
    | (with_reducible refine aw_if ?_; simp only [go_sem, reduceIte, Nat.reduceLT, Nat.reduceEqDiff, Nat.reduceAdd, Nat.reduceMul, Nat.reduceSub, Nat.reduceLeDiff, reduceCtorEq, tp_frz, tp_fz])
    | (with_reducible refine aw_block ?_)
    | (with_reducible refine aw_ret ?_; (try simp only [thenQ, blockQ]); refine aw_ret' ?_; simp only [go_sem, reduceIte, Nat.reduceLT, Nat.reduceEqDiff, Nat.reduceAdd, Nat.reduceMul, Nat.reduceSub, Nat.reduceLeDiff, reduceCtorEq, tp_frz, tp_fz])
    | (with_reducible refine aw_exit ?_; simp only [thenQ, blockQ, reduceIte, Nat.reduceEqDiff])
    | (with_reducible refine aw_skip ?_; simp only [thenQ, blockQ])
    | (with_reducible refine gate_intro (fun h => ?_) (fun h => ?_) <;> simp only [h, go_sem, reduceIte, Nat.reduceLT, Nat.reduceEqDiff, Nat.reduceAdd, Nat.reduceMul, Nat.reduceSub, Nat.reduceLeDiff, reduceCtorEq, tp_frz, tp_fz] <;> (try simp only [decide_eq_true_eq, decide_eq_false_iff_not, Bool.not_true] at h))
    | (with_reducible refine chk_in (by kernel_rfl) ?_)
    | (with_reducible refine And.intro (And.intro (by omega) (by omega)) ?_)
    | (with_reducible refine And.intro (by omega) ?_)
    | (refine rng_call rfl _ _ _ rfl h1 (by omega) rfl (fun k0 t0 ht0 hk0 hk1 => ?_))
    | (rw [get_in]; rotate_left; omega; simp only [go_sem, reduceIte, Nat.reduceLT, Nat.reduceEqDiff, Nat.reduceAdd, Nat.reduceMul, Nat.reduceSub, Nat.reduceLeDiff, reduceCtorEq, tp_frz, tp_fz])
    | fail)
  obtain ⟨k0, rfl⟩ := Int.eq_ofNat_of_zero_le hk0
  refine aw_nil 7 100 8 rfl rfl ?_
  refine aw_rounds (α := Nat × List EE × Tp) (fun x => ⟨envOf [(0, .box 0 0), (1, i64 most), (2, i64 n), (7, .row 100), (8, i64 x.1)], memOf [(0, .cells (tpD x.2.2)), (100, .row 8 (eeR x.2.1) true)], 200⟩)
    (fun x => tpOk x.2.2 ∧ (x.2.1.length : Int) + 2 * x.1 ≤ 2 * most) (fun x => x.1) (k0, [], t0) ⟨ht0, by simp; omega⟩ (weak_in [(100, 100)] (by repeat' (first | trivial | constructor | rfl)) (by repeat' (first | trivial | constructor | rfl)) (by rfl) (by rfl) (by rfl)) ?_
  rintro ⟨i, l, t⟩ ⟨ht, hi⟩
  simp only at ht hi ⊢
  cases i with
  | zero =>
    have hc : decide (((0 : Nat) : Int) > 0) = false := rfl
    repeat' (first
    | (with_reducible refine aw_seq ?_)
    | (with_reducible refine kont_in ?_; simp only [go_sem, reduceIte, Nat.reduceLT, Nat.reduceEqDiff, Nat.reduceAdd, Nat.reduceMul, Nat.reduceSub, Nat.reduceLeDiff, reduceCtorEq, hc, tp_frz, tp_fz])
    | (with_reducible refine dKont_in ?_; simp only [go_sem, reduceIte, Nat.reduceLT, Nat.reduceEqDiff, Nat.reduceAdd, Nat.reduceMul, Nat.reduceSub, Nat.reduceLeDiff, reduceCtorEq, hc, tp_frz, tp_fz])
    | (with_reducible refine aw_drw (by kernel_rfl) hK kDet_nil ?_; simp only [go_sem, reduceIte, Nat.reduceLT, Nat.reduceEqDiff, Nat.reduceAdd, Nat.reduceMul, Nat.reduceSub, Nat.reduceLeDiff, reduceCtorEq, hc, tp_frz, tp_fz])
    | (with_reducible refine aw_reg hK ?_; simp only [go_sem, reduceIte, Nat.reduceLT, Nat.reduceEqDiff, Nat.reduceAdd, Nat.reduceMul, Nat.reduceSub, Nat.reduceLeDiff, reduceCtorEq, hc, tp_frz, tp_fz])
    | (with_reducible refine aw_if ?_; simp only [go_sem, reduceIte, Nat.reduceLT, Nat.reduceEqDiff, Nat.reduceAdd, Nat.reduceMul, Nat.reduceSub, Nat.reduceLeDiff, reduceCtorEq, hc, tp_frz, tp_fz])
    | (with_reducible refine aw_block ?_)
    | (with_reducible refine aw_ret ?_; (try simp only [thenQ, blockQ]); refine aw_ret' ?_; simp only [go_sem, reduceIte, Nat.reduceLT, Nat.reduceEqDiff, Nat.reduceAdd, Nat.reduceMul, Nat.reduceSub, Nat.reduceLeDiff, reduceCtorEq, hc, tp_frz, tp_fz])
    | (with_reducible refine aw_exit ?_; simp only [thenQ, blockQ, reduceIte, Nat.reduceEqDiff])
    | (with_reducible refine aw_skip ?_; simp only [thenQ, blockQ])
    | (with_reducible refine gate_intro (fun h => ?_) (fun h => ?_) <;> simp only [h, go_sem, reduceIte, Nat.reduceLT, Nat.reduceEqDiff, Nat.reduceAdd, Nat.reduceMul, Nat.reduceSub, Nat.reduceLeDiff, reduceCtorEq, hc, tp_frz, tp_fz] <;> (try simp only [decide_eq_true_eq, decide_eq_false_iff_not, Bool.not_true] at h))
    | (with_reducible refine chk_in (by kernel_rfl) ?_)
    | (with_reducible refine And.intro (And.intro (by omega) (by omega)) ?_)
    | (with_reducible refine And.intro (by omega) ?_)
    | (rw [get_in]; rotate_left; omega; simp only [go_sem, reduceIte, Nat.reduceLT, Nat.reduceEqDiff, Nat.reduceAdd, Nat.reduceMul, Nat.reduceSub, Nat.reduceLeDiff, reduceCtorEq, hc, tp_frz, tp_fz])
    | fail)
    exact ⟨_, ⟨l, t, ht, by omega, rfl⟩, OwnLe.refl _, rfl⟩
  | succ i =>
    have hc : decide (((i + 1 : Nat) : Int) > 0) = true := by simp <;> omega
    have hw : IntKind.i64.wrap (((i + 1 : Nat) : Int) - 1) = (i : Int) := by rw [wr64 (by omega) (by omega)]; omega
    repeat' (first
    | (with_reducible refine aw_cut (x := .seq (.region _ _ _) (.cond (.tmp 37) _ _)) (fun s' => ∃ e t, Weak 111 3 s' (eeI most n i c l e t) ∧ tpOk t) ?_ ?_)
    | (with_reducible refine aw_seq ?_)
    | (with_reducible refine kont_in ?_; simp only [go_sem, reduceIte, Nat.reduceLT, Nat.reduceEqDiff, Nat.reduceAdd, Nat.reduceMul, Nat.reduceSub, Nat.reduceLeDiff, reduceCtorEq, hc, tp_frz, tp_fz])
    | (with_reducible refine dKont_in ?_; simp only [go_sem, reduceIte, Nat.reduceLT, Nat.reduceEqDiff, Nat.reduceAdd, Nat.reduceMul, Nat.reduceSub, Nat.reduceLeDiff, reduceCtorEq, hc, tp_frz, tp_fz])
    | (with_reducible refine aw_drw (by kernel_rfl) hK kDet_nil ?_; simp only [go_sem, reduceIte, Nat.reduceLT, Nat.reduceEqDiff, Nat.reduceAdd, Nat.reduceMul, Nat.reduceSub, Nat.reduceLeDiff, reduceCtorEq, hc, tp_frz, tp_fz])
    | (with_reducible refine aw_reg hK ?_; simp only [go_sem, reduceIte, Nat.reduceLT, Nat.reduceEqDiff, Nat.reduceAdd, Nat.reduceMul, Nat.reduceSub, Nat.reduceLeDiff, reduceCtorEq, hc, tp_frz, tp_fz])
    | (with_reducible refine aw_if ?_; simp only [go_sem, reduceIte, Nat.reduceLT, Nat.reduceEqDiff, Nat.reduceAdd, Nat.reduceMul, Nat.reduceSub, Nat.reduceLeDiff, reduceCtorEq, hc, tp_frz, tp_fz])
    | (with_reducible refine aw_block ?_)
    | (with_reducible refine aw_ret ?_; (try simp only [thenQ, blockQ]); refine aw_ret' ?_; simp only [go_sem, reduceIte, Nat.reduceLT, Nat.reduceEqDiff, Nat.reduceAdd, Nat.reduceMul, Nat.reduceSub, Nat.reduceLeDiff, reduceCtorEq, hc, tp_frz, tp_fz])
    | (with_reducible refine aw_exit ?_; simp only [thenQ, blockQ, reduceIte, Nat.reduceEqDiff])
    | (with_reducible refine aw_skip ?_; simp only [thenQ, blockQ])
    | (with_reducible refine gate_intro (fun h => ?_) (fun h => ?_) <;> simp only [h, go_sem, reduceIte, Nat.reduceLT, Nat.reduceEqDiff, Nat.reduceAdd, Nat.reduceMul, Nat.reduceSub, Nat.reduceLeDiff, reduceCtorEq, hc, tp_frz, tp_fz] <;> (try simp only [decide_eq_true_eq, decide_eq_false_iff_not, Bool.not_true] at h))
    | (with_reducible refine chk_in (by kernel_rfl) ?_)
    | (with_reducible refine And.intro (And.intro (by omega) (by omega)) ?_)
    | (with_reducible refine And.intro (by omega) ?_)
    | (refine rng_call rfl _ 1 3 rfl (by assumption) (by omega) rfl (fun c t1 ht1 hc0 hc1 => ?_))
    | (refine rng_call rfl _ 0 24 rfl (by assumption) (by omega) rfl (fun tm t1 ht1 _ _ => ?_))
    | (refine rng_call rfl _ (-1) 4 rfl (by assumption) (by omega) rfl (fun q t1 ht1 _ _ => ?_))
    | (refine next_call rfl _ _ rfl (by assumption) (by simp [go_sem] <;> omega) rfl (fun v t2 ht2 hv _ => ?_))
    | (refine oneb_call rfl _ _ rfl (by assumption) (by omega) rfl (fun b t3 ht3 => ?_))
    | (refine pickw_call rfl _ [1, 1, 1, 2, 3] rfl rfl rfl (by assumption) (by decide) rfl (fun v t2 ht2 => ?_))
    | (refine pickw_call rfl _ [0, 1, 99, 100] rfl rfl rfl (by assumption) (by decide) rfl (fun v t2 ht2 => ?_))
    | (refine pickw_call rfl _ [-1, 31, 32] rfl rfl rfl (by assumption) (by decide) rfl (fun v t2 ht2 => ?_))
    | (refine pickw_call rfl _ [0, 99, 100, _] rfl rfl rfl (by assumption) (by simp) rfl (fun v t2 ht2 => ?_))
    | (refine wildw_call rfl _ rfl (by assumption) rfl (fun v t2 ht2 => ?_))
    | (refine stampT_call rfl _ _ rfl (by assumption) (by omega) (memOf_free rfl) (fun s t2 ht2 => ?_))
    | (refine cutv_call rfl _ 3 (by omega) rfl (fun v _ _ => ?_))
    | (rw [get_in]; rotate_left; omega; simp only [go_sem, reduceIte, Nat.reduceLT, Nat.reduceEqDiff, Nat.reduceAdd, Nat.reduceMul, Nat.reduceSub, Nat.reduceLeDiff, reduceCtorEq, hc, tp_frz, tp_fz])
    | fail)
    all_goals try (first | exact ⟨((_, _, _), _, (_, _, _), _), _, weak_in [(100, 100), (101, _)] (by repeat' (first | trivial | constructor | rfl)) (by repeat' (first | trivial | constructor | rfl)) (by rfl) (by rfl) (by rfl), by assumption⟩)
    clear ht
    rintro s' ⟨⟨⟨a1, a2, a3⟩, k, ⟨⟨b1, b2, b3⟩, to⟩⟩, t, hwk, ht⟩
    refine aw_weak hwk ?_
    simp only [eeI, eeD]
    repeat' (first
    | (with_reducible refine aw_cut (x := .seq (.region _ _ _) (.cond (.tmp 42) _ _)) (fun s' => ∃ e t, Weak 111 3 s' (eeI most n i c l e t) ∧ tpOk t) ?_ ?_)
    | (with_reducible refine aw_seq ?_)
    | (with_reducible refine kont_in ?_; simp only [go_sem, reduceIte, Nat.reduceLT, Nat.reduceEqDiff, Nat.reduceAdd, Nat.reduceMul, Nat.reduceSub, Nat.reduceLeDiff, reduceCtorEq, hc, tp_frz, tp_fz])
    | (with_reducible refine dKont_in ?_; simp only [go_sem, reduceIte, Nat.reduceLT, Nat.reduceEqDiff, Nat.reduceAdd, Nat.reduceMul, Nat.reduceSub, Nat.reduceLeDiff, reduceCtorEq, hc, tp_frz, tp_fz])
    | (with_reducible refine aw_drw (by kernel_rfl) hK kDet_nil ?_; simp only [go_sem, reduceIte, Nat.reduceLT, Nat.reduceEqDiff, Nat.reduceAdd, Nat.reduceMul, Nat.reduceSub, Nat.reduceLeDiff, reduceCtorEq, hc, tp_frz, tp_fz])
    | (with_reducible refine aw_reg hK ?_; simp only [go_sem, reduceIte, Nat.reduceLT, Nat.reduceEqDiff, Nat.reduceAdd, Nat.reduceMul, Nat.reduceSub, Nat.reduceLeDiff, reduceCtorEq, hc, tp_frz, tp_fz])
    | (with_reducible refine aw_if ?_; simp only [go_sem, reduceIte, Nat.reduceLT, Nat.reduceEqDiff, Nat.reduceAdd, Nat.reduceMul, Nat.reduceSub, Nat.reduceLeDiff, reduceCtorEq, hc, tp_frz, tp_fz])
    | (with_reducible refine aw_block ?_)
    | (with_reducible refine aw_ret ?_; (try simp only [thenQ, blockQ]); refine aw_ret' ?_; simp only [go_sem, reduceIte, Nat.reduceLT, Nat.reduceEqDiff, Nat.reduceAdd, Nat.reduceMul, Nat.reduceSub, Nat.reduceLeDiff, reduceCtorEq, hc, tp_frz, tp_fz])
    | (with_reducible refine aw_exit ?_; simp only [thenQ, blockQ, reduceIte, Nat.reduceEqDiff])
    | (with_reducible refine aw_skip ?_; simp only [thenQ, blockQ])
    | (with_reducible refine gate_intro (fun h => ?_) (fun h => ?_) <;> simp only [h, go_sem, reduceIte, Nat.reduceLT, Nat.reduceEqDiff, Nat.reduceAdd, Nat.reduceMul, Nat.reduceSub, Nat.reduceLeDiff, reduceCtorEq, hc, tp_frz, tp_fz] <;> (try simp only [decide_eq_true_eq, decide_eq_false_iff_not, Bool.not_true] at h))
    | (with_reducible refine chk_in (by kernel_rfl) ?_)
    | (with_reducible refine And.intro (And.intro (by omega) (by omega)) ?_)
    | (with_reducible refine And.intro (by omega) ?_)
    | (refine rng_call rfl _ 1 3 rfl (by assumption) (by omega) rfl (fun c t1 ht1 hc0 hc1 => ?_))
    | (refine rng_call rfl _ 0 24 rfl (by assumption) (by omega) rfl (fun tm t1 ht1 _ _ => ?_))
    | (refine rng_call rfl _ (-1) 4 rfl (by assumption) (by omega) rfl (fun q t1 ht1 _ _ => ?_))
    | (refine next_call rfl _ _ rfl (by assumption) (by simp [go_sem] <;> omega) rfl (fun v t2 ht2 hv _ => ?_))
    | (refine oneb_call rfl _ _ rfl (by assumption) (by omega) rfl (fun b t3 ht3 => ?_))
    | (refine pickw_call rfl _ [1, 1, 1, 2, 3] rfl rfl rfl (by assumption) (by decide) rfl (fun v t2 ht2 => ?_))
    | (refine pickw_call rfl _ [0, 1, 99, 100] rfl rfl rfl (by assumption) (by decide) rfl (fun v t2 ht2 => ?_))
    | (refine pickw_call rfl _ [-1, 31, 32] rfl rfl rfl (by assumption) (by decide) rfl (fun v t2 ht2 => ?_))
    | (refine pickw_call rfl _ [0, 99, 100, _] rfl rfl rfl (by assumption) (by simp) rfl (fun v t2 ht2 => ?_))
    | (refine wildw_call rfl _ rfl (by assumption) rfl (fun v t2 ht2 => ?_))
    | (refine stampT_call rfl _ _ rfl (by assumption) (by omega) (memOf_free rfl) (fun s t2 ht2 => ?_))
    | (refine cutv_call rfl _ 3 (by omega) rfl (fun v _ _ => ?_))
    | (rw [get_in]; rotate_left; omega; simp only [go_sem, reduceIte, Nat.reduceLT, Nat.reduceEqDiff, Nat.reduceAdd, Nat.reduceMul, Nat.reduceSub, Nat.reduceLeDiff, reduceCtorEq, hc, tp_frz, tp_fz])
    | fail)
    all_goals try (first | exact ⟨((_, _, _), _, (_, _, _), _), _, weak_in [(100, 100), (101, _)] (by repeat' (first | trivial | constructor | rfl)) (by repeat' (first | trivial | constructor | rfl)) (by rfl) (by rfl) (by rfl), by assumption⟩)
    clear ht
    rintro s' ⟨⟨⟨a1, a2, a3⟩, k, ⟨⟨b1, b2, b3⟩, to⟩⟩, t, hwk, ht⟩
    refine aw_weak hwk ?_
    simp only [eeI, eeD]
    repeat' (first
    | (with_reducible refine aw_cut (x := .seq (.region _ _ _) (.cond (.tmp 56) _ _)) (fun s' => ∃ e t, Weak 111 3 s' (eeI most n i c l e t) ∧ tpOk t) ?_ ?_)
    | (with_reducible refine aw_seq ?_)
    | (with_reducible refine kont_in ?_; simp only [go_sem, reduceIte, Nat.reduceLT, Nat.reduceEqDiff, Nat.reduceAdd, Nat.reduceMul, Nat.reduceSub, Nat.reduceLeDiff, reduceCtorEq, hc, tp_frz, tp_fz])
    | (with_reducible refine dKont_in ?_; simp only [go_sem, reduceIte, Nat.reduceLT, Nat.reduceEqDiff, Nat.reduceAdd, Nat.reduceMul, Nat.reduceSub, Nat.reduceLeDiff, reduceCtorEq, hc, tp_frz, tp_fz])
    | (with_reducible refine aw_drw (by kernel_rfl) hK kDet_nil ?_; simp only [go_sem, reduceIte, Nat.reduceLT, Nat.reduceEqDiff, Nat.reduceAdd, Nat.reduceMul, Nat.reduceSub, Nat.reduceLeDiff, reduceCtorEq, hc, tp_frz, tp_fz])
    | (with_reducible refine aw_reg hK ?_; simp only [go_sem, reduceIte, Nat.reduceLT, Nat.reduceEqDiff, Nat.reduceAdd, Nat.reduceMul, Nat.reduceSub, Nat.reduceLeDiff, reduceCtorEq, hc, tp_frz, tp_fz])
    | (with_reducible refine aw_if ?_; simp only [go_sem, reduceIte, Nat.reduceLT, Nat.reduceEqDiff, Nat.reduceAdd, Nat.reduceMul, Nat.reduceSub, Nat.reduceLeDiff, reduceCtorEq, hc, tp_frz, tp_fz])
    | (with_reducible refine aw_block ?_)
    | (with_reducible refine aw_ret ?_; (try simp only [thenQ, blockQ]); refine aw_ret' ?_; simp only [go_sem, reduceIte, Nat.reduceLT, Nat.reduceEqDiff, Nat.reduceAdd, Nat.reduceMul, Nat.reduceSub, Nat.reduceLeDiff, reduceCtorEq, hc, tp_frz, tp_fz])
    | (with_reducible refine aw_exit ?_; simp only [thenQ, blockQ, reduceIte, Nat.reduceEqDiff])
    | (with_reducible refine aw_skip ?_; simp only [thenQ, blockQ])
    | (with_reducible refine gate_intro (fun h => ?_) (fun h => ?_) <;> simp only [h, go_sem, reduceIte, Nat.reduceLT, Nat.reduceEqDiff, Nat.reduceAdd, Nat.reduceMul, Nat.reduceSub, Nat.reduceLeDiff, reduceCtorEq, hc, tp_frz, tp_fz] <;> (try simp only [decide_eq_true_eq, decide_eq_false_iff_not, Bool.not_true] at h))
    | (with_reducible refine chk_in (by kernel_rfl) ?_)
    | (with_reducible refine And.intro (And.intro (by omega) (by omega)) ?_)
    | (with_reducible refine And.intro (by omega) ?_)
    | (refine rng_call rfl _ 1 3 rfl (by assumption) (by omega) rfl (fun c t1 ht1 hc0 hc1 => ?_))
    | (refine rng_call rfl _ 0 24 rfl (by assumption) (by omega) rfl (fun tm t1 ht1 _ _ => ?_))
    | (refine rng_call rfl _ (-1) 4 rfl (by assumption) (by omega) rfl (fun q t1 ht1 _ _ => ?_))
    | (refine next_call rfl _ _ rfl (by assumption) (by simp [go_sem] <;> omega) rfl (fun v t2 ht2 hv _ => ?_))
    | (refine oneb_call rfl _ _ rfl (by assumption) (by omega) rfl (fun b t3 ht3 => ?_))
    | (refine pickw_call rfl _ [1, 1, 1, 2, 3] rfl rfl rfl (by assumption) (by decide) rfl (fun v t2 ht2 => ?_))
    | (refine pickw_call rfl _ [0, 1, 99, 100] rfl rfl rfl (by assumption) (by decide) rfl (fun v t2 ht2 => ?_))
    | (refine pickw_call rfl _ [-1, 31, 32] rfl rfl rfl (by assumption) (by decide) rfl (fun v t2 ht2 => ?_))
    | (refine pickw_call rfl _ [0, 99, 100, _] rfl rfl rfl (by assumption) (by simp) rfl (fun v t2 ht2 => ?_))
    | (refine wildw_call rfl _ rfl (by assumption) rfl (fun v t2 ht2 => ?_))
    | (refine stampT_call rfl _ _ rfl (by assumption) (by omega) (memOf_free rfl) (fun s t2 ht2 => ?_))
    | (refine cutv_call rfl _ 3 (by omega) rfl (fun v _ _ => ?_))
    | (rw [get_in]; rotate_left; omega; simp only [go_sem, reduceIte, Nat.reduceLT, Nat.reduceEqDiff, Nat.reduceAdd, Nat.reduceMul, Nat.reduceSub, Nat.reduceLeDiff, reduceCtorEq, hc, tp_frz, tp_fz])
    | fail)
    all_goals try (first | exact ⟨((_, _, _), _, (_, _, _), _), _, weak_in [(100, 100), (101, _)] (by repeat' (first | trivial | constructor | rfl)) (by repeat' (first | trivial | constructor | rfl)) (by rfl) (by rfl) (by rfl), by assumption⟩)
    clear ht
    rintro s' ⟨⟨⟨a1, a2, a3⟩, k, ⟨⟨b1, b2, b3⟩, to⟩⟩, t, hwk, ht⟩
    refine aw_weak hwk ?_
    simp only [eeI]
    repeat' (first
    | (with_reducible refine aw_seq ?_)
    | (with_reducible refine kont_in ?_; simp only [go_sem, reduceIte, Nat.reduceLT, Nat.reduceEqDiff, Nat.reduceAdd, Nat.reduceMul, Nat.reduceSub, Nat.reduceLeDiff, reduceCtorEq, hc, hw, tp_frz, tp_fz])
    | (with_reducible refine dKont_in ?_; simp only [go_sem, reduceIte, Nat.reduceLT, Nat.reduceEqDiff, Nat.reduceAdd, Nat.reduceMul, Nat.reduceSub, Nat.reduceLeDiff, reduceCtorEq, hc, hw, tp_frz, tp_fz])
    | (with_reducible refine aw_drw (by kernel_rfl) hK kDet_nil ?_; simp only [go_sem, reduceIte, Nat.reduceLT, Nat.reduceEqDiff, Nat.reduceAdd, Nat.reduceMul, Nat.reduceSub, Nat.reduceLeDiff, reduceCtorEq, hc, hw, tp_frz, tp_fz])
    | (with_reducible refine aw_reg hK ?_; simp only [go_sem, reduceIte, Nat.reduceLT, Nat.reduceEqDiff, Nat.reduceAdd, Nat.reduceMul, Nat.reduceSub, Nat.reduceLeDiff, reduceCtorEq, hc, hw, tp_frz, tp_fz])
    | (with_reducible refine aw_if ?_; simp only [go_sem, reduceIte, Nat.reduceLT, Nat.reduceEqDiff, Nat.reduceAdd, Nat.reduceMul, Nat.reduceSub, Nat.reduceLeDiff, reduceCtorEq, hc, hw, tp_frz, tp_fz])
    | (with_reducible refine aw_block ?_)
    | (with_reducible refine aw_ret ?_; (try simp only [thenQ, blockQ]); refine aw_ret' ?_; simp only [go_sem, reduceIte, Nat.reduceLT, Nat.reduceEqDiff, Nat.reduceAdd, Nat.reduceMul, Nat.reduceSub, Nat.reduceLeDiff, reduceCtorEq, hc, hw, tp_frz, tp_fz])
    | (with_reducible refine aw_exit ?_; simp only [thenQ, blockQ, reduceIte, Nat.reduceEqDiff])
    | (with_reducible refine aw_skip ?_; simp only [thenQ, blockQ])
    | (with_reducible refine gate_intro (fun h => ?_) (fun h => ?_) <;> simp only [h, go_sem, reduceIte, Nat.reduceLT, Nat.reduceEqDiff, Nat.reduceAdd, Nat.reduceMul, Nat.reduceSub, Nat.reduceLeDiff, reduceCtorEq, hc, hw, tp_frz, tp_fz] <;> (try simp only [decide_eq_true_eq, decide_eq_false_iff_not, Bool.not_true] at h))
    | (with_reducible refine chk_in (by kernel_rfl) ?_)
    | (with_reducible refine And.intro (And.intro (by omega) (by omega)) ?_)
    | (with_reducible refine And.intro (by omega) ?_)
    | (refine rng_call rfl _ 1 3 rfl (by assumption) (by omega) rfl (fun c t1 ht1 hc0 hc1 => ?_))
    | (refine rng_call rfl _ 0 24 rfl (by assumption) (by omega) rfl (fun tm t1 ht1 _ _ => ?_))
    | (refine rng_call rfl _ (-1) 4 rfl (by assumption) (by omega) rfl (fun q t1 ht1 _ _ => ?_))
    | (refine next_call rfl _ _ rfl (by assumption) (by simp [go_sem] <;> omega) rfl (fun v t2 ht2 hv _ => ?_))
    | (refine oneb_call rfl _ _ rfl (by assumption) (by omega) rfl (fun b t3 ht3 => ?_))
    | (refine pickw_call rfl _ [1, 1, 1, 2, 3] rfl rfl rfl (by assumption) (by decide) rfl (fun v t2 ht2 => ?_))
    | (refine pickw_call rfl _ [0, 1, 99, 100] rfl rfl rfl (by assumption) (by decide) rfl (fun v t2 ht2 => ?_))
    | (refine pickw_call rfl _ [-1, 31, 32] rfl rfl rfl (by assumption) (by decide) rfl (fun v t2 ht2 => ?_))
    | (refine pickw_call rfl _ [0, 99, 100, _] rfl rfl rfl (by assumption) (by simp) rfl (fun v t2 ht2 => ?_))
    | (refine wildw_call rfl _ rfl (by assumption) rfl (fun v t2 ht2 => ?_))
    | (refine stampT_call rfl _ _ rfl (by assumption) (by omega) (memOf_free rfl) (fun s t2 ht2 => ?_))
    | (refine cutv_call rfl _ 3 (by omega) rfl (fun v _ _ => ?_))
    | (rw [get_in]; rotate_left; omega; simp only [go_sem, reduceIte, Nat.reduceLT, Nat.reduceEqDiff, Nat.reduceAdd, Nat.reduceMul, Nat.reduceSub, Nat.reduceLeDiff, reduceCtorEq, hc, hw, tp_frz, tp_fz])
    | fail)
    · have hv := hv (by omega)
      obtain ⟨e, he⟩ : ∃ e, (l ++ [((a1, a2, a3), k, (b1, b2, b3), to)])[v.toNat]? = some e := ⟨_, List.getElem?_eq_getElem (by simp; omega)⟩
      simp only [go_sem, he, Option.map_some]
      refine ⟨by decide, ?_⟩
      repeat' (first
    | (with_reducible refine aw_seq ?_)
    | (with_reducible refine kont_in ?_; simp only [go_sem, reduceIte, Nat.reduceLT, Nat.reduceEqDiff, Nat.reduceAdd, Nat.reduceMul, Nat.reduceSub, Nat.reduceLeDiff, reduceCtorEq, hc, hw, tp_frz, tp_fz])
    | (with_reducible refine dKont_in ?_; simp only [go_sem, reduceIte, Nat.reduceLT, Nat.reduceEqDiff, Nat.reduceAdd, Nat.reduceMul, Nat.reduceSub, Nat.reduceLeDiff, reduceCtorEq, hc, hw, tp_frz, tp_fz])
    | (with_reducible refine aw_drw (by kernel_rfl) hK kDet_nil ?_; simp only [go_sem, reduceIte, Nat.reduceLT, Nat.reduceEqDiff, Nat.reduceAdd, Nat.reduceMul, Nat.reduceSub, Nat.reduceLeDiff, reduceCtorEq, hc, hw, tp_frz, tp_fz])
    | (with_reducible refine aw_reg hK ?_; simp only [go_sem, reduceIte, Nat.reduceLT, Nat.reduceEqDiff, Nat.reduceAdd, Nat.reduceMul, Nat.reduceSub, Nat.reduceLeDiff, reduceCtorEq, hc, hw, tp_frz, tp_fz])
    | (with_reducible refine aw_if ?_; simp only [go_sem, reduceIte, Nat.reduceLT, Nat.reduceEqDiff, Nat.reduceAdd, Nat.reduceMul, Nat.reduceSub, Nat.reduceLeDiff, reduceCtorEq, hc, hw, tp_frz, tp_fz])
    | (with_reducible refine aw_block ?_)
    | (with_reducible refine aw_ret ?_; (try simp only [thenQ, blockQ]); refine aw_ret' ?_; simp only [go_sem, reduceIte, Nat.reduceLT, Nat.reduceEqDiff, Nat.reduceAdd, Nat.reduceMul, Nat.reduceSub, Nat.reduceLeDiff, reduceCtorEq, hc, hw, tp_frz, tp_fz])
    | (with_reducible refine aw_exit ?_; simp only [thenQ, blockQ, reduceIte, Nat.reduceEqDiff])
    | (with_reducible refine aw_skip ?_; simp only [thenQ, blockQ])
    | (with_reducible refine gate_intro (fun h => ?_) (fun h => ?_) <;> simp only [h, go_sem, reduceIte, Nat.reduceLT, Nat.reduceEqDiff, Nat.reduceAdd, Nat.reduceMul, Nat.reduceSub, Nat.reduceLeDiff, reduceCtorEq, hc, hw, tp_frz, tp_fz] <;> (try simp only [decide_eq_true_eq, decide_eq_false_iff_not, Bool.not_true] at h))
    | (with_reducible refine chk_in (by kernel_rfl) ?_)
    | (with_reducible refine And.intro (And.intro (by omega) (by omega)) ?_)
    | (with_reducible refine And.intro (by omega) ?_)
    | (refine rng_call rfl _ 1 3 rfl (by assumption) (by omega) rfl (fun c t1 ht1 hc0 hc1 => ?_))
    | (refine rng_call rfl _ 0 24 rfl (by assumption) (by omega) rfl (fun tm t1 ht1 _ _ => ?_))
    | (refine rng_call rfl _ (-1) 4 rfl (by assumption) (by omega) rfl (fun q t1 ht1 _ _ => ?_))
    | (refine next_call rfl _ _ rfl (by assumption) (by simp [go_sem] <;> omega) rfl (fun v t2 ht2 hv _ => ?_))
    | (refine oneb_call rfl _ _ rfl (by assumption) (by omega) rfl (fun b t3 ht3 => ?_))
    | (refine pickw_call rfl _ [1, 1, 1, 2, 3] rfl rfl rfl (by assumption) (by decide) rfl (fun v t2 ht2 => ?_))
    | (refine pickw_call rfl _ [0, 1, 99, 100] rfl rfl rfl (by assumption) (by decide) rfl (fun v t2 ht2 => ?_))
    | (refine pickw_call rfl _ [-1, 31, 32] rfl rfl rfl (by assumption) (by decide) rfl (fun v t2 ht2 => ?_))
    | (refine pickw_call rfl _ [0, 99, 100, _] rfl rfl rfl (by assumption) (by simp) rfl (fun v t2 ht2 => ?_))
    | (refine wildw_call rfl _ rfl (by assumption) rfl (fun v t2 ht2 => ?_))
    | (refine stampT_call rfl _ _ rfl (by assumption) (by omega) (memOf_free rfl) (fun s t2 ht2 => ?_))
    | (refine cutv_call rfl _ 3 (by omega) rfl (fun v _ _ => ?_))
    | (rw [get_in]; rotate_left; omega; simp only [go_sem, reduceIte, Nat.reduceLT, Nat.reduceEqDiff, Nat.reduceAdd, Nat.reduceMul, Nat.reduceSub, Nat.reduceLeDiff, reduceCtorEq, hc, hw, tp_frz, tp_fz])
    | fail)
      all_goals exact ⟨(i, l ++ [((a1, a2, a3), k, (b1, b2, b3), to)] ++ [e], t2), weak_in [(100, _)] (by repeat' (first | trivial | constructor | rfl)) (by repeat' (first | trivial | constructor | rfl)) (by rfl) (by rfl) (by rfl), ⟨by assumption, by simp; omega⟩, Nat.lt_succ_self i⟩
    · exact ⟨(i, l ++ [((a1, a2, a3), k, (b1, b2, b3), to)], t3), weak_in [(100, _)] (by repeat' (first | trivial | constructor | rfl)) (by repeat' (first | trivial | constructor | rfl)) (by rfl) (by rfl) (by rfl), ⟨by assumption, by simp; omega⟩, Nat.lt_succ_self i⟩
end Go.Proofs.R1

/- Entries: the chapter's example; laws: Folds. -/
set_option linter.unusedVariables false
set_option linter.unusedSimpArgs false
set_option maxRecDepth 8000
set_option maxHeartbeats 4000000
namespace Go.Proofs.R1
open Go Go.Abs

theorem ee_call {K : Kt} (hk : K 13 = some eeC) {np fid id : Nat} {M : Mem} {nx : D → Mem → Prop} (t : Tp) (most n : Int) (hm : M id = some (.cells (tpD t))) (hp : tpOk t) (h0 : (0 ≤ most ∧ most ≤ 100) ∧ 0 ≤ n ∧ n ≤ 1000000) (hf : ∀ j, M (fid + j) = none)
    (hn : ∀ l t', tpOk t' → (l.length : Int) ≤ 2 * most → nx (.row fid) (upd (upd M id (some (.cells (tpD t')))) fid (some (.row 8 (eeR l) true)))) : semCall K np 13 [.box id 0, i64 most, i64 n] M fid nx :=
  call_ioR hk rfl rfl (t, most, n) (by simp [nf, hm, tpD, slI, nf0]) rfl (by simp [eeC, argsF, ioArg, hm, consAD, tpD, slI, mapO, fz, fz0]) ⟨hp, h0⟩ hf (by rintro r ⟨l, t', h1, h2, rfl⟩; exact hn l t' h1 h2)
theorem dead_call {K : Kt} (hk : K 19 = some deadC) {np fid id : Nat} {M : Mem} {nx : D → Mem → Prop} (t : Tp) (n : Int) (hm : M id = some (.cells (tpD t))) (hp : tpOk t) (h0 : 0 ≤ n ∧ n ≤ 1000000) (hf : ∀ j, M (fid + j) = none)
    (hn : ∀ (d : Dl) t', tpOk t' → (n = 0 → 0 ≤ d.1 ∧ d.1 ≤ d.2 ∧ d.2 ≤ 1000) → nx (.agg (dlD d)) (upd M id (some (.cells (tpD t'))))) : semCall K np 19 [.box id 0, i64 n] M fid nx :=
  call_ioR hk rfl rfl (t, n) (by simp [nf, hm, tpD, slI, nf0]) rfl (by simp [deadC, argsF, ioArg, hm, consAD, tpD, slI, mapO, fz, fz0]) ⟨hp, h0⟩ hf (by rintro r ⟨x, y, t', h1, h2, rfl⟩; exact hn (x, y) t' h1 h2)
theorem foldR_len (l : List EE) (d : Dl) (u : Int) : (foldR l d u).1.length ≤ 300 ∧ (foldR l d u).2.1.length ≤ 300 := by
  unfold foldR
  split
  · simp
  split
  · simp
  · have h1 := foldL_va d ((evR l).1.filter fun e => decide (e.1.1 ≤ u))
    have h2 := foldL_rf d ((evR l).1.filter fun e => decide (e.1.1 ≤ u))
    have h3 := evR_len l
    have h4 := List.length_filter_le (fun e : EE => decide (e.1.1 ≤ u)) (evR l).1
    exact ⟨(vaL_iff.1 h1).1, by simp only; omega⟩
theorem fo_call {K : Kt} {f : FuncId} (hk : K f = some foC) {np fid : Nat} {M : Mem} {nx : D → Mem → Prop} (l : List EE) (d : Dl) (u : Int) {x : D} {y : List D} (hx : fz M true 4 x = some (.sl 8 (eeR l))) (hy : y = dlD d) (hp : l.length ≤ 1000000) (hf : ∀ j, M (fid + j) = none)
    (hn : (foldR l d u).1.length ≤ 300 → (foldR l d u).2.1.length ≤ 300 → nx (.tup [.row fid, .row (fid + 1), i64 (foldR l d u).2.2]) (upd (upd M fid (some (.row 4 (erR (foldR l d u).1) true))) (fid + 1) (some (.row 3 (rfR (foldR l d u).2.1) true)))) : semCall K np f [x, .agg y, i64 u] M fid nx := by
  subst hy
  exact call_clR hk rfl rfl (l, d, u) (by simp only [argsV, mapO, hx]; rfl) hp hf (by rintro r rfl; exact hn (foldR_len l d u).1 (foldR_len l d u).2)
theorem sm_call {K : Kt} (hk : K 24 = some smC) {np fid : Nat} {M : Mem} {nx : D → Mem → Prop} (a b : List Er) {x y : D} (hx : fz M true 4 x = some (.sl 4 (erR a))) (hy : fz M true 4 y = some (.sl 4 (erR b))) (hl : a.length ≤ 1000000 ∧ b.length ≤ 1000000) (hf : M fid = none) (hn : nx (bl (decide (a = b))) M) : semCall K np 24 [x, y] M fid nx :=
  call_fn hk rfl rfl (fun _ _ h => h) (a, b) (by simp only [argsV, mapO, hx, hy]; rfl) hl hf hn
theorem rs_call {K : Kt} (hk : K 27 = some rsC) {np fid : Nat} {M : Mem} {nx : D → Mem → Prop} (a b : List Rf) {x y : D} (hx : fz M true 4 x = some (.sl 3 (rfR a))) (hy : fz M true 4 y = some (.sl 3 (rfR b))) (hl : a.length ≤ 1000000 ∧ b.length ≤ 1000000) (hf : M fid = none) (hn : nx (bl (decide (a = b))) M) : semCall K np 27 [x, y] M fid nx :=
  call_fn hk rfl rfl (fun _ _ h => h) (a, b) (by simp only [argsV, mapO, hx, hy]; rfl) hl hf hn
def exE : List EE := [((16, 7, 2), 1, (5, 7, 1), 0), ((8, 7, 0), 1, (5, 7, 1), 0), ((15, 7, 1), 3, (5, 7, 1), 9)]
theorem ev_ex : evR exE = ([((8, 7, 0), 1, (5, 7, 1), 0), ((15, 7, 1), 3, (5, 7, 1), 9), ((16, 7, 2), 1, (5, 7, 1), 0)], 0) := by
  have h : canF (exE.map (·.1)) (clsI exE) = [1, 2, 0] := (canF_of ⟨by decide, fun i => by
    match i with
    | 0 => decide
    | 1 => decide
    | 2 => decide
    | i + 3 => simp [exE]; intro h; omega⟩).symm
  unfold evR evL evF; rw [h]; rfl
theorem fold_ex : foldR exE (10, 20) 100 = ([((5, 9, 1), false)], [((7, 2), 9)], 0) := by
  unfold foldR; rw [ev_ex]; kernel_rfl
theorem eAwk_ok : CallOk Try.prog 18 trueC := by
  refine ok_of_body' 52 0 Try.func18 rfl (by decide) Try.ntmps18 (by intro a h; exact ⟨rfl, rfl⟩) (by decide) (by rintro _ a r _ rfl; rfl) ?_
  rintro ⟨⟩ h1
  simp only [lawC]
  simp only [initE, initMm, List.length_cons, List.length_nil, Nat.reduceAdd]
  have hK : KOk Try.prog (kOf [(26, foC)]) := kOk_cons fo_ok kOk_nil
  have q1 : eqCells [i64 5, i64 9, i64 1, bl false] [i64 5, i64 9, i64 1, bl false] = some true := by decide
  have q2 : eqCells [i64 7, i64 2, i64 9] [i64 7, i64 2, i64 9] = some true := by decide
  repeat' (first
    | (with_reducible refine aw_seq ?_)
    | (with_reducible refine kont_in ?_; simp only [go_sem, reduceIte, Nat.reduceLT, Nat.reduceEqDiff, Nat.reduceAdd, Nat.reduceMul, Nat.reduceSub, Nat.reduceLeDiff, reduceCtorEq, fold_ex, erD, rfD, q1, q2])
    | (with_reducible refine dKont_in ?_; simp only [go_sem, reduceIte, Nat.reduceLT, Nat.reduceEqDiff, Nat.reduceAdd, Nat.reduceMul, Nat.reduceSub, Nat.reduceLeDiff, reduceCtorEq, fold_ex, erD, rfD, q1, q2])
    | (with_reducible refine aw_drw (by kernel_rfl) hK kDet_nil ?_; simp only [go_sem, reduceIte, Nat.reduceLT, Nat.reduceEqDiff, Nat.reduceAdd, Nat.reduceMul, Nat.reduceSub, Nat.reduceLeDiff, reduceCtorEq, fold_ex, erD, rfD, q1, q2])
    | (with_reducible refine aw_reg hK ?_; simp only [go_sem, reduceIte, Nat.reduceLT, Nat.reduceEqDiff, Nat.reduceAdd, Nat.reduceMul, Nat.reduceSub, Nat.reduceLeDiff, reduceCtorEq, fold_ex, erD, rfD, q1, q2])
    | (with_reducible refine aw_if ?_; simp only [go_sem, reduceIte, Nat.reduceLT, Nat.reduceEqDiff, Nat.reduceAdd, Nat.reduceMul, Nat.reduceSub, Nat.reduceLeDiff, reduceCtorEq, fold_ex, erD, rfD, q1, q2])
    | (with_reducible refine aw_block ?_)
    | (with_reducible refine aw_ret ?_; (try simp only [thenQ, blockQ]); refine aw_ret' ?_; simp only [go_sem, reduceIte, Nat.reduceLT, Nat.reduceEqDiff, Nat.reduceAdd, Nat.reduceMul, Nat.reduceSub, Nat.reduceLeDiff, reduceCtorEq, fold_ex, erD, rfD, q1, q2])
    | (with_reducible refine aw_exit ?_; simp only [thenQ, blockQ, reduceIte, Nat.reduceEqDiff])
    | (with_reducible refine aw_skip ?_; simp only [thenQ, blockQ])
    | (with_reducible refine gate_intro (fun h => ?_) (fun h => ?_) <;> simp only [h, go_sem, reduceIte, Nat.reduceLT, Nat.reduceEqDiff, Nat.reduceAdd, Nat.reduceMul, Nat.reduceSub, Nat.reduceLeDiff, reduceCtorEq, fold_ex, erD, rfD, q1, q2] <;> (try simp only [decide_eq_true_eq, decide_eq_false_iff_not, Bool.not_true] at h))
    | (with_reducible refine chk_in (by kernel_rfl) ?_)
    | (with_reducible refine And.intro (And.intro (by omega) (by omega)) ?_)
    | (with_reducible refine And.intro (by omega) ?_)
    | (refine fo_call rfl exE (10, 20) 100 rfl rfl (by decide) (memOf_free rfl) (fun _ _ => ?_))
    | (rw [get_in]; rotate_left; omega; simp only [go_sem, reduceIte, Nat.reduceLT, Nat.reduceEqDiff, Nat.reduceAdd, Nat.reduceMul, Nat.reduceSub, Nat.reduceLeDiff, reduceCtorEq, fold_ex, erD, rfD, q1, q2])
    | fail)
  all_goals first | rfl | (exfalso; simp at h; done)
abbrev foldsLawC : Con := lawC (List Int × Int) (fun a => [.d (.sl 1 (intL a.1)), .d (i64 a.2)]) (fun a => a.1.length ≤ 9223372036854775807) [false, false]
theorem foldsLaw_ok : CallOk Try.prog 5 foldsLawC := by
  refine ok_of_body' 92 2 Try.func5 rfl (by decide) Try.ntmps5 (by intro a h; exact ⟨rfl, rfl⟩) (by decide) (by rintro _ a r _ rfl; rfl) ?_
  rintro ⟨tl, u⟩ h1
  simp only [lawC] at h1 ⊢
  simp only [initE, initMm, List.length_cons, List.length_nil, Nat.reduceAdd]
  have hK : KOk Try.prog (kOf [(12, newC), (19, deadC), (13, eeC), (25, rangeC), (26, foC), (20, foC), (24, smC), (27, rsC), (18, trueC)]) := kOk_cons new_ok (kOk_cons dead_ok (kOk_cons ee_ok (kOk_cons range_ok' (kOk_cons fo_ok (kOk_cons rfo_ok (kOk_cons sm_ok (kOk_cons rs_ok (kOk_cons eAwk_ok kOk_nil))))))))
  repeat' (first
    | (with_reducible refine aw_seq ?_)
    | (with_reducible refine kont_in ?_; simp only [go_sem, reduceIte, Nat.reduceLT, Nat.reduceEqDiff, Nat.reduceAdd, Nat.reduceMul, Nat.reduceSub, Nat.reduceLeDiff, reduceCtorEq, tp_frz, tp_fz])
    | (with_reducible refine dKont_in ?_; simp only [go_sem, reduceIte, Nat.reduceLT, Nat.reduceEqDiff, Nat.reduceAdd, Nat.reduceMul, Nat.reduceSub, Nat.reduceLeDiff, reduceCtorEq, tp_frz, tp_fz])
    | (with_reducible refine aw_drw (by kernel_rfl) hK kDet_nil ?_; simp only [go_sem, reduceIte, Nat.reduceLT, Nat.reduceEqDiff, Nat.reduceAdd, Nat.reduceMul, Nat.reduceSub, Nat.reduceLeDiff, reduceCtorEq, tp_frz, tp_fz])
    | (with_reducible refine aw_reg hK ?_; simp only [go_sem, reduceIte, Nat.reduceLT, Nat.reduceEqDiff, Nat.reduceAdd, Nat.reduceMul, Nat.reduceSub, Nat.reduceLeDiff, reduceCtorEq, tp_frz, tp_fz])
    | (with_reducible refine aw_if ?_; simp only [go_sem, reduceIte, Nat.reduceLT, Nat.reduceEqDiff, Nat.reduceAdd, Nat.reduceMul, Nat.reduceSub, Nat.reduceLeDiff, reduceCtorEq, tp_frz, tp_fz])
    | (with_reducible refine aw_block ?_)
    | (with_reducible refine aw_ret ?_; (try simp only [thenQ, blockQ]); refine aw_ret' ?_; simp only [go_sem, reduceIte, Nat.reduceLT, Nat.reduceEqDiff, Nat.reduceAdd, Nat.reduceMul, Nat.reduceSub, Nat.reduceLeDiff, reduceCtorEq, tp_frz, tp_fz])
    | (with_reducible refine aw_exit ?_; simp only [thenQ, blockQ, reduceIte, Nat.reduceEqDiff])
    | (with_reducible refine aw_skip ?_; simp only [thenQ, blockQ])
    | (with_reducible refine gate_intro (fun h => ?_) (fun h => ?_) <;> simp only [h, go_sem, reduceIte, Nat.reduceLT, Nat.reduceEqDiff, Nat.reduceAdd, Nat.reduceMul, Nat.reduceSub, Nat.reduceLeDiff, reduceCtorEq, tp_frz, tp_fz] <;> (try simp only [decide_eq_true_eq, decide_eq_false_iff_not, Bool.not_true] at h))
    | (with_reducible refine chk_in (by kernel_rfl) ?_)
    | (with_reducible refine And.intro (And.intro (by omega) (by omega)) ?_)
    | (with_reducible refine And.intro (by omega) ?_)
    | (refine new_call rfl tl h1 (memOf_free rfl) (fun t ht => ?_))
    | (refine dead_call rfl _ _ rfl (by assumption) (by omega) (memOf_free rfl) (fun d t1 ht1 hd => ?_))
    | (refine ee_call rfl _ _ _ rfl (by assumption) (by omega) (memOf_free rfl) (fun l t2 ht2 hl => ?_))
    | (refine rng_call rfl _ _ _ rfl (by assumption) (by omega) rfl (fun v t3 ht3 _ _ => ?_))
    | (refine true_call rfl rfl ?_)
    | (refine fo_call rfl l d _ rfl rfl (by omega) (memOf_free rfl) (fun hf1 hf2 => ?_))
    | (refine sm_call rfl _ _ rfl rfl (by omega) rfl ?_)
    | (refine rs_call rfl _ _ rfl rfl (by omega) rfl ?_)
    | (rw [get_in]; rotate_left; omega; simp only [go_sem, reduceIte, Nat.reduceLT, Nat.reduceEqDiff, Nat.reduceAdd, Nat.reduceMul, Nat.reduceSub, Nat.reduceLeDiff, reduceCtorEq, tp_frz, tp_fz])
    | fail)
  all_goals first | rfl | (exfalso; simp at h; done)
end Go.Proofs.R1
