/- entry.Fold and the reference's. -/
import Derived.Test.YtjhhmkkndgocfaaCDelT
import Derived.Test.YtjhhmkkndgocfaaCR1M
import Derived.Test.YtjhhmkkndgocfaaCAbsQ
set_option linter.unusedVariables false
set_option linter.unusedSimpArgs false
set_option maxRecDepth 8000
set_option maxHeartbeats 16000000
namespace Go.Proofs.R1
open Go Go.Abs

theorem fo_ok : CallOk Try.prog 26 foC := by
  refine ok_of_body_own 60 3 Try.func26 rfl (by decide) Try.ntmps26 (by intro a h; exact ⟨rfl, rfl⟩) (by decide) (by rintro _ a r _ rfl; exact plain3 _ _ _) ?_
  rintro ⟨(l : List EE), d, u⟩ hl
  simp only [foC] at hl ⊢
  simp only [initE, initMm, List.length_cons, List.length_nil, Nat.reduceAdd]
  have s1 : dlC.srt = none := rfl
  have c1 : dlC.clean = true := rfl
  have s2 : eecC.srt = none := rfl
  have c2 : eecC.clean = true := rfl
  have s3 : apC.srt = none := rfl
  have c3 : apC.clean = true := rfl
  have hK : KOk Try.prog (kOf [(44, dlC), (14, eecC), (22, apC), (56, idtC)]) := kOk_cons dlP_ok (kOk_cons eeCan_ok (kOk_cons ap_ok (kOk_cons idt_ok kOk_nil)))
  cases hdl : dlV d with
  | false =>
    repeat' (first
    | (with_reducible refine aw_seq ?_)
    | (with_reducible refine kont_in ?_; simp only [go_sem, reduceIte, Nat.reduceLT, Nat.reduceEqDiff, Nat.reduceAdd, Nat.reduceMul, Nat.reduceSub, Nat.reduceLeDiff, reduceCtorEq, s1, c1, s2, c2, s3, c3, hdl])
    | (with_reducible refine dKont_in ?_; simp only [go_sem, reduceIte, Nat.reduceLT, Nat.reduceEqDiff, Nat.reduceAdd, Nat.reduceMul, Nat.reduceSub, Nat.reduceLeDiff, reduceCtorEq, s1, c1, s2, c2, s3, c3, hdl])
    | (with_reducible refine aw_drw (by kernel_rfl) hK kDet_nil ?_; simp only [go_sem, reduceIte, Nat.reduceLT, Nat.reduceEqDiff, Nat.reduceAdd, Nat.reduceMul, Nat.reduceSub, Nat.reduceLeDiff, reduceCtorEq, s1, c1, s2, c2, s3, c3, hdl])
    | (with_reducible refine aw_reg hK ?_; simp only [go_sem, reduceIte, Nat.reduceLT, Nat.reduceEqDiff, Nat.reduceAdd, Nat.reduceMul, Nat.reduceSub, Nat.reduceLeDiff, reduceCtorEq, s1, c1, s2, c2, s3, c3, hdl])
    | (with_reducible refine aw_if ?_; simp only [go_sem, reduceIte, Nat.reduceLT, Nat.reduceEqDiff, Nat.reduceAdd, Nat.reduceMul, Nat.reduceSub, Nat.reduceLeDiff, reduceCtorEq, s1, c1, s2, c2, s3, c3, hdl])
    | (with_reducible refine aw_block ?_)
    | (with_reducible refine aw_ret ?_; (try simp only [thenQ, blockQ]); refine aw_ret' ?_; simp only [go_sem, reduceIte, Nat.reduceLT, Nat.reduceEqDiff, Nat.reduceAdd, Nat.reduceMul, Nat.reduceSub, Nat.reduceLeDiff, reduceCtorEq, s1, c1, s2, c2, s3, c3, hdl])
    | (with_reducible refine aw_exit ?_; simp only [thenQ, blockQ, reduceIte, Nat.reduceEqDiff])
    | (with_reducible refine aw_skip ?_; simp only [thenQ, blockQ])
    | (with_reducible refine gate_intro (fun h => ?_) (fun h => ?_) <;> simp only [h, go_sem, reduceIte, Nat.reduceLT, Nat.reduceEqDiff, Nat.reduceAdd, Nat.reduceMul, Nat.reduceSub, Nat.reduceLeDiff, reduceCtorEq, s1, c1, s2, c2, s3, c3, hdl] <;> (try simp only [decide_eq_true_eq, decide_eq_false_iff_not, Bool.not_true] at h))
    | (with_reducible refine chk_in (by kernel_rfl) ?_)
    | (with_reducible refine And.intro (And.intro (by omega) (by omega)) ?_)
    | (with_reducible refine And.intro (by omega) ?_)
    | (refine dlP_call rfl d rfl ?_)
    | (rw [get_in]; rotate_left; omega; simp only [go_sem, reduceIte, Nat.reduceLT, Nat.reduceEqDiff, Nat.reduceAdd, Nat.reduceMul, Nat.reduceSub, Nat.reduceLeDiff, reduceCtorEq, s1, c1, s2, c2, s3, c3, hdl])
    | fail)
    refine ⟨_, rfl, ?_, rfl⟩
    rw [foldR, if_pos hdl]; exact .z _ _ _ (.z _ _ _ (.refl _))
  | true =>
  have hes := evR_len l
  have hev : (evR l).2 = 0 → (evR l).1 = evL l := fun h => by
    unfold evR at h ⊢
    split at h
    · cases h
    · rename_i hh; rw [if_neg hh]
  by_cases hc : (evR l).2 = 0
  case neg =>
    have hb : ((evR l).2 != 0) = true := by simpa using hc
    repeat' (first
    | (with_reducible refine aw_seq ?_)
    | (with_reducible refine kont_in ?_; simp only [go_sem, reduceIte, Nat.reduceLT, Nat.reduceEqDiff, Nat.reduceAdd, Nat.reduceMul, Nat.reduceSub, Nat.reduceLeDiff, reduceCtorEq, s1, c1, s2, c2, s3, c3, hdl, hb])
    | (with_reducible refine dKont_in ?_; simp only [go_sem, reduceIte, Nat.reduceLT, Nat.reduceEqDiff, Nat.reduceAdd, Nat.reduceMul, Nat.reduceSub, Nat.reduceLeDiff, reduceCtorEq, s1, c1, s2, c2, s3, c3, hdl, hb])
    | (with_reducible refine aw_drw (by kernel_rfl) hK kDet_nil ?_; simp only [go_sem, reduceIte, Nat.reduceLT, Nat.reduceEqDiff, Nat.reduceAdd, Nat.reduceMul, Nat.reduceSub, Nat.reduceLeDiff, reduceCtorEq, s1, c1, s2, c2, s3, c3, hdl, hb])
    | (with_reducible refine aw_reg hK ?_; simp only [go_sem, reduceIte, Nat.reduceLT, Nat.reduceEqDiff, Nat.reduceAdd, Nat.reduceMul, Nat.reduceSub, Nat.reduceLeDiff, reduceCtorEq, s1, c1, s2, c2, s3, c3, hdl, hb])
    | (with_reducible refine aw_if ?_; simp only [go_sem, reduceIte, Nat.reduceLT, Nat.reduceEqDiff, Nat.reduceAdd, Nat.reduceMul, Nat.reduceSub, Nat.reduceLeDiff, reduceCtorEq, s1, c1, s2, c2, s3, c3, hdl, hb])
    | (with_reducible refine aw_block ?_)
    | (with_reducible refine aw_ret ?_; (try simp only [thenQ, blockQ]); refine aw_ret' ?_; simp only [go_sem, reduceIte, Nat.reduceLT, Nat.reduceEqDiff, Nat.reduceAdd, Nat.reduceMul, Nat.reduceSub, Nat.reduceLeDiff, reduceCtorEq, s1, c1, s2, c2, s3, c3, hdl, hb])
    | (with_reducible refine aw_exit ?_; simp only [thenQ, blockQ, reduceIte, Nat.reduceEqDiff])
    | (with_reducible refine aw_skip ?_; simp only [thenQ, blockQ])
    | (with_reducible refine gate_intro (fun h => ?_) (fun h => ?_) <;> simp only [h, go_sem, reduceIte, Nat.reduceLT, Nat.reduceEqDiff, Nat.reduceAdd, Nat.reduceMul, Nat.reduceSub, Nat.reduceLeDiff, reduceCtorEq, s1, c1, s2, c2, s3, c3, hdl, hb] <;> (try simp only [decide_eq_true_eq, decide_eq_false_iff_not, Bool.not_true] at h))
    | (with_reducible refine chk_in (by kernel_rfl) ?_)
    | (with_reducible refine And.intro (And.intro (by omega) (by omega)) ?_)
    | (with_reducible refine And.intro (by omega) ?_)
    | (refine dlP_call rfl d rfl ?_)
    | (refine can_call rfl l rfl hl (memOf_free rfl) ?_)
    | (rw [get_in]; rotate_left; omega; simp only [go_sem, reduceIte, Nat.reduceLT, Nat.reduceEqDiff, Nat.reduceAdd, Nat.reduceMul, Nat.reduceSub, Nat.reduceLeDiff, reduceCtorEq, s1, c1, s2, c2, s3, c3, hdl, hb])
    | fail)
    refine ⟨_, rfl, ?_, rfl⟩
    rw [foldR, if_neg (by simp [hdl]), if_pos hc]; exact .z _ _ _ (.z _ _ _ (.refl _))
  have hb : ((0 : Int) != 0) = false := rfl
  have hasc : (evR l).1.Pairwise fun a b => cmpS a.1 b.1 < 0 := by rw [hev hc]; exact evL_asc l
  have hfo : foldR l d u = ((foldL d ((evR l).1.filter fun e => decide (e.1.1 ≤ u))).1, (foldL d ((evR l).1.filter fun e => decide (e.1.1 ≤ u))).2, 0) := by
    rw [foldR, if_neg (by simp [hdl]), if_neg (by simp [hc])]
  rw [hfo]
  clear hev hfo
  generalize he : (evR l).1 = es at *
  generalize hcc : (evR l).2 = cc at *
  subst hc
  repeat' (first
    | (with_reducible refine aw_seq ?_)
    | (with_reducible refine kont_in ?_; simp only [go_sem, reduceIte, Nat.reduceLT, Nat.reduceEqDiff, Nat.reduceAdd, Nat.reduceMul, Nat.reduceSub, Nat.reduceLeDiff, reduceCtorEq, s1, c1, s2, c2, s3, c3, hdl, hb, he, hcc])
    | (with_reducible refine dKont_in ?_; simp only [go_sem, reduceIte, Nat.reduceLT, Nat.reduceEqDiff, Nat.reduceAdd, Nat.reduceMul, Nat.reduceSub, Nat.reduceLeDiff, reduceCtorEq, s1, c1, s2, c2, s3, c3, hdl, hb, he, hcc])
    | (with_reducible refine aw_drw (by kernel_rfl) hK kDet_nil ?_; simp only [go_sem, reduceIte, Nat.reduceLT, Nat.reduceEqDiff, Nat.reduceAdd, Nat.reduceMul, Nat.reduceSub, Nat.reduceLeDiff, reduceCtorEq, s1, c1, s2, c2, s3, c3, hdl, hb, he, hcc])
    | (with_reducible refine aw_reg hK ?_; simp only [go_sem, reduceIte, Nat.reduceLT, Nat.reduceEqDiff, Nat.reduceAdd, Nat.reduceMul, Nat.reduceSub, Nat.reduceLeDiff, reduceCtorEq, s1, c1, s2, c2, s3, c3, hdl, hb, he, hcc])
    | (with_reducible refine aw_if ?_; simp only [go_sem, reduceIte, Nat.reduceLT, Nat.reduceEqDiff, Nat.reduceAdd, Nat.reduceMul, Nat.reduceSub, Nat.reduceLeDiff, reduceCtorEq, s1, c1, s2, c2, s3, c3, hdl, hb, he, hcc])
    | (with_reducible refine aw_block ?_)
    | (with_reducible refine aw_ret ?_; (try simp only [thenQ, blockQ]); refine aw_ret' ?_; simp only [go_sem, reduceIte, Nat.reduceLT, Nat.reduceEqDiff, Nat.reduceAdd, Nat.reduceMul, Nat.reduceSub, Nat.reduceLeDiff, reduceCtorEq, s1, c1, s2, c2, s3, c3, hdl, hb, he, hcc])
    | (with_reducible refine aw_exit ?_; simp only [thenQ, blockQ, reduceIte, Nat.reduceEqDiff])
    | (with_reducible refine aw_skip ?_; simp only [thenQ, blockQ])
    | (with_reducible refine gate_intro (fun h => ?_) (fun h => ?_) <;> simp only [h, go_sem, reduceIte, Nat.reduceLT, Nat.reduceEqDiff, Nat.reduceAdd, Nat.reduceMul, Nat.reduceSub, Nat.reduceLeDiff, reduceCtorEq, s1, c1, s2, c2, s3, c3, hdl, hb, he, hcc] <;> (try simp only [decide_eq_true_eq, decide_eq_false_iff_not, Bool.not_true] at h))
    | (with_reducible refine chk_in (by kernel_rfl) ?_)
    | (with_reducible refine And.intro (And.intro (by omega) (by omega)) ?_)
    | (with_reducible refine And.intro (by omega) ?_)
    | (refine dlP_call rfl d rfl ?_)
    | (refine can_call rfl l rfl hl (memOf_free rfl) ?_)
    | (rw [get_in]; rotate_left; omega; simp only [go_sem, reduceIte, Nat.reduceLT, Nat.reduceEqDiff, Nat.reduceAdd, Nat.reduceMul, Nat.reduceSub, Nat.reduceLeDiff, reduceCtorEq, s1, c1, s2, c2, s3, c3, hdl, hb, he, hcc])
    | fail)
  refine aw_nil 11 400 4 rfl rfl ?_
  refine aw_nil 12 401 3 rfl rfl ?_
  refine aw_rounds (α := Nat) (fun i => ⟨envOf [(30, i64 i), (29, i64 es.length), (28, .row 101), (11, .row 100), (12, .row 102), (4, .box 103 0), (2, i64 u)], memOf [(101, .row 8 (eeR es) true), (100, .row 4 (erR (foldL d (es.take i)).1) true), (102, .row 3 (rfR (foldL d (es.take i)).2) true), (103, .cells (dlD d))], 200⟩)
    (fun i => i ≤ es.length ∧ ∀ k e, k < i → es[k]? = some e → e.1.1 ≤ u) (fun i => es.length - i) 0 ⟨Nat.zero_le _, fun k e h => by omega⟩ (weak_in [(101, 35), (100, 400), (102, 401), (103, 3)] (by repeat' (first | trivial | constructor | rfl)) (by repeat' (first | trivial | constructor | rfl)) (by rfl) (by rfl) (by rfl)) ?_
  rintro i ⟨hi, hI⟩
  have hfin : ∀ {R S : List (List D)}, (∀ e, es[i]? = some e → u < e.1.1) → R = erR (foldL d (es.take i)).1 → S = rfR (foldL d (es.take i)).2 →
      ownP (fun r => r = ⟨[.own 4 (erR (foldL d (es.filter fun e => decide (e.1.1 ≤ u))).1), .own 3 (rfR (foldL d (es.filter fun e => decide (e.1.1 ≤ u))).2), .d (i64 0)], []⟩) ⟨[.own 4 R, .own 3 S, .d (i64 0)], []⟩ := fun hat h1 h2 =>
    ⟨_, rfl, by rw [h1, h2, filter_pre hasc hI hat hi]; exact .refl _, rfl⟩
  have hva := foldL_va d (es.take i)
  have hol := (vaL_iff.1 hva).1
  have hrl := foldL_rf d (es.take i)
  rw [List.length_take] at hrl
  cases hx : es[i]? with
  | none =>
    have hge : es.length ≤ i := by simpa using hx
    have hc : decide ((i : Int) < (es.length : Int)) = false := by simp <;> omega
    repeat' (first
    | (with_reducible refine aw_seq ?_)
    | (with_reducible refine kont_in ?_; simp only [go_sem, reduceIte, Nat.reduceLT, Nat.reduceEqDiff, Nat.reduceAdd, Nat.reduceMul, Nat.reduceSub, Nat.reduceLeDiff, reduceCtorEq, hc, s1, c1, s2, c2, s3, c3])
    | (with_reducible refine dKont_in ?_; simp only [go_sem, reduceIte, Nat.reduceLT, Nat.reduceEqDiff, Nat.reduceAdd, Nat.reduceMul, Nat.reduceSub, Nat.reduceLeDiff, reduceCtorEq, hc, s1, c1, s2, c2, s3, c3])
    | (with_reducible refine aw_drw (by kernel_rfl) hK kDet_nil ?_; simp only [go_sem, reduceIte, Nat.reduceLT, Nat.reduceEqDiff, Nat.reduceAdd, Nat.reduceMul, Nat.reduceSub, Nat.reduceLeDiff, reduceCtorEq, hc, s1, c1, s2, c2, s3, c3])
    | (with_reducible refine aw_reg hK ?_; simp only [go_sem, reduceIte, Nat.reduceLT, Nat.reduceEqDiff, Nat.reduceAdd, Nat.reduceMul, Nat.reduceSub, Nat.reduceLeDiff, reduceCtorEq, hc, s1, c1, s2, c2, s3, c3])
    | (with_reducible refine aw_if ?_; simp only [go_sem, reduceIte, Nat.reduceLT, Nat.reduceEqDiff, Nat.reduceAdd, Nat.reduceMul, Nat.reduceSub, Nat.reduceLeDiff, reduceCtorEq, hc, s1, c1, s2, c2, s3, c3])
    | (with_reducible refine aw_block ?_)
    | (with_reducible refine aw_ret ?_; (try simp only [thenQ, blockQ]); refine aw_ret' ?_; simp only [go_sem, reduceIte, Nat.reduceLT, Nat.reduceEqDiff, Nat.reduceAdd, Nat.reduceMul, Nat.reduceSub, Nat.reduceLeDiff, reduceCtorEq, hc, s1, c1, s2, c2, s3, c3])
    | (with_reducible refine aw_exit ?_; simp only [thenQ, blockQ, reduceIte, Nat.reduceEqDiff])
    | (with_reducible refine aw_skip ?_; simp only [thenQ, blockQ])
    | (with_reducible refine gate_intro (fun h => ?_) (fun h => ?_) <;> simp only [h, go_sem, reduceIte, Nat.reduceLT, Nat.reduceEqDiff, Nat.reduceAdd, Nat.reduceMul, Nat.reduceSub, Nat.reduceLeDiff, reduceCtorEq, hc, s1, c1, s2, c2, s3, c3] <;> (try simp only [decide_eq_true_eq, decide_eq_false_iff_not, Bool.not_true] at h))
    | (with_reducible refine chk_in (by kernel_rfl) ?_)
    | (with_reducible refine And.intro (And.intro (by omega) (by omega)) ?_)
    | (with_reducible refine And.intro (by omega) ?_)
    | (rw [get_in]; rotate_left; omega; simp only [go_sem, reduceIte, Nat.reduceLT, Nat.reduceEqDiff, Nat.reduceAdd, Nat.reduceMul, Nat.reduceSub, Nat.reduceLeDiff, reduceCtorEq, hc, s1, c1, s2, c2, s3, c3])
    | fail)
    exact hfin (fun e h => by rw [hx] at h; cases h) rfl rfl
  | some e =>
    have hlt : i < es.length := (List.getElem?_eq_some_iff.1 hx).1
    have hc : decide ((i : Int) < (es.length : Int)) = true := by simp <;> omega
    have hw := wrS (i := i) (by omega)
    have ht : es.take (i + 1) = es.take i ++ [e] := by rw [List.take_add_one, hx]; rfl
    have hst : foldL d (es.take (i + 1)) = stepR d (foldL d (es.take i)) e := by rw [ht, foldL_app]
    cases ht : decide (e.1.1 > u) with
    | true =>
      repeat' (first
    | (with_reducible refine aw_seq ?_)
    | (with_reducible refine kont_in ?_; simp only [go_sem, reduceIte, Nat.reduceLT, Nat.reduceEqDiff, Nat.reduceAdd, Nat.reduceMul, Nat.reduceSub, Nat.reduceLeDiff, reduceCtorEq, hc, hx, ht, eeD_g0, s1, c1, s2, c2, s3, c3])
    | (with_reducible refine dKont_in ?_; simp only [go_sem, reduceIte, Nat.reduceLT, Nat.reduceEqDiff, Nat.reduceAdd, Nat.reduceMul, Nat.reduceSub, Nat.reduceLeDiff, reduceCtorEq, hc, hx, ht, eeD_g0, s1, c1, s2, c2, s3, c3])
    | (with_reducible refine aw_drw (by kernel_rfl) hK kDet_nil ?_; simp only [go_sem, reduceIte, Nat.reduceLT, Nat.reduceEqDiff, Nat.reduceAdd, Nat.reduceMul, Nat.reduceSub, Nat.reduceLeDiff, reduceCtorEq, hc, hx, ht, eeD_g0, s1, c1, s2, c2, s3, c3])
    | (with_reducible refine aw_reg hK ?_; simp only [go_sem, reduceIte, Nat.reduceLT, Nat.reduceEqDiff, Nat.reduceAdd, Nat.reduceMul, Nat.reduceSub, Nat.reduceLeDiff, reduceCtorEq, hc, hx, ht, eeD_g0, s1, c1, s2, c2, s3, c3])
    | (with_reducible refine aw_if ?_; simp only [go_sem, reduceIte, Nat.reduceLT, Nat.reduceEqDiff, Nat.reduceAdd, Nat.reduceMul, Nat.reduceSub, Nat.reduceLeDiff, reduceCtorEq, hc, hx, ht, eeD_g0, s1, c1, s2, c2, s3, c3])
    | (with_reducible refine aw_block ?_)
    | (with_reducible refine aw_ret ?_; (try simp only [thenQ, blockQ]); refine aw_ret' ?_; simp only [go_sem, reduceIte, Nat.reduceLT, Nat.reduceEqDiff, Nat.reduceAdd, Nat.reduceMul, Nat.reduceSub, Nat.reduceLeDiff, reduceCtorEq, hc, hx, ht, eeD_g0, s1, c1, s2, c2, s3, c3])
    | (with_reducible refine aw_exit ?_; simp only [thenQ, blockQ, reduceIte, Nat.reduceEqDiff])
    | (with_reducible refine aw_skip ?_; simp only [thenQ, blockQ])
    | (with_reducible refine gate_intro (fun h => ?_) (fun h => ?_) <;> simp only [h, go_sem, reduceIte, Nat.reduceLT, Nat.reduceEqDiff, Nat.reduceAdd, Nat.reduceMul, Nat.reduceSub, Nat.reduceLeDiff, reduceCtorEq, hc, hx, ht, eeD_g0, s1, c1, s2, c2, s3, c3] <;> (try simp only [decide_eq_true_eq, decide_eq_false_iff_not, Bool.not_true] at h))
    | (with_reducible refine chk_in (by kernel_rfl) ?_)
    | (with_reducible refine And.intro (And.intro (by omega) (by omega)) ?_)
    | (with_reducible refine And.intro (by omega) ?_)
    | (rw [get_in]; rotate_left; omega; simp only [go_sem, reduceIte, Nat.reduceLT, Nat.reduceEqDiff, Nat.reduceAdd, Nat.reduceMul, Nat.reduceSub, Nat.reduceLeDiff, reduceCtorEq, hc, hx, ht, eeD_g0, s1, c1, s2, c2, s3, c3])
    | fail)
      exact hfin (fun e' h => by rw [hx] at h; cases h; simpa using ht) rfl rfl
    | false =>
      cases hap : (applyR (foldL d (es.take i)).1 d e).2 != 0 with
      | true =>
        repeat' (first
    | (with_reducible refine aw_seq ?_)
    | (with_reducible refine kont_in ?_; simp only [go_sem, reduceIte, Nat.reduceLT, Nat.reduceEqDiff, Nat.reduceAdd, Nat.reduceMul, Nat.reduceSub, Nat.reduceLeDiff, reduceCtorEq, hc, hx, hw, ht, eeD_g0, rfR_app1, hap, s1, c1, s2, c2, s3, c3])
    | (with_reducible refine dKont_in ?_; simp only [go_sem, reduceIte, Nat.reduceLT, Nat.reduceEqDiff, Nat.reduceAdd, Nat.reduceMul, Nat.reduceSub, Nat.reduceLeDiff, reduceCtorEq, hc, hx, hw, ht, eeD_g0, rfR_app1, hap, s1, c1, s2, c2, s3, c3])
    | (with_reducible refine aw_drw (by kernel_rfl) hK kDet_nil ?_; simp only [go_sem, reduceIte, Nat.reduceLT, Nat.reduceEqDiff, Nat.reduceAdd, Nat.reduceMul, Nat.reduceSub, Nat.reduceLeDiff, reduceCtorEq, hc, hx, hw, ht, eeD_g0, rfR_app1, hap, s1, c1, s2, c2, s3, c3])
    | (with_reducible refine aw_reg hK ?_; simp only [go_sem, reduceIte, Nat.reduceLT, Nat.reduceEqDiff, Nat.reduceAdd, Nat.reduceMul, Nat.reduceSub, Nat.reduceLeDiff, reduceCtorEq, hc, hx, hw, ht, eeD_g0, rfR_app1, hap, s1, c1, s2, c2, s3, c3])
    | (with_reducible refine aw_if ?_; simp only [go_sem, reduceIte, Nat.reduceLT, Nat.reduceEqDiff, Nat.reduceAdd, Nat.reduceMul, Nat.reduceSub, Nat.reduceLeDiff, reduceCtorEq, hc, hx, hw, ht, eeD_g0, rfR_app1, hap, s1, c1, s2, c2, s3, c3])
    | (with_reducible refine aw_block ?_)
    | (with_reducible refine aw_ret ?_; (try simp only [thenQ, blockQ]); refine aw_ret' ?_; simp only [go_sem, reduceIte, Nat.reduceLT, Nat.reduceEqDiff, Nat.reduceAdd, Nat.reduceMul, Nat.reduceSub, Nat.reduceLeDiff, reduceCtorEq, hc, hx, hw, ht, eeD_g0, rfR_app1, hap, s1, c1, s2, c2, s3, c3])
    | (with_reducible refine aw_exit ?_; simp only [thenQ, blockQ, reduceIte, Nat.reduceEqDiff])
    | (with_reducible refine aw_skip ?_; simp only [thenQ, blockQ])
    | (with_reducible refine gate_intro (fun h => ?_) (fun h => ?_) <;> simp only [h, go_sem, reduceIte, Nat.reduceLT, Nat.reduceEqDiff, Nat.reduceAdd, Nat.reduceMul, Nat.reduceSub, Nat.reduceLeDiff, reduceCtorEq, hc, hx, hw, ht, eeD_g0, rfR_app1, hap, s1, c1, s2, c2, s3, c3] <;> (try simp only [decide_eq_true_eq, decide_eq_false_iff_not, Bool.not_true] at h))
    | (with_reducible refine chk_in (by kernel_rfl) ?_)
    | (with_reducible refine And.intro (And.intro (by omega) (by omega)) ?_)
    | (with_reducible refine And.intro (by omega) ?_)
    | (refine ap_call rfl (foldL d (es.take i)).1 d e rfl (by omega) (memOf_free rfl) ?_)
    | (refine idt_call rfl e.1 rfl ?_)
    | (rw [get_in]; rotate_left; omega; simp only [go_sem, reduceIte, Nat.reduceLT, Nat.reduceEqDiff, Nat.reduceAdd, Nat.reduceMul, Nat.reduceSub, Nat.reduceLeDiff, reduceCtorEq, hc, hx, hw, ht, eeD_g0, rfR_app1, hap, s1, c1, s2, c2, s3, c3])
    | fail)
        refine ⟨i + 1, ?_, ⟨hlt, all_next (P := fun e : EE => e.1.1 ≤ u) hI hx (by simpa using ht)⟩, by omega⟩
        rw [hst, stepR, if_neg (by simpa using hap)]
        exact weak_in [(100, 100), (101, 101), (102, _), (103, _)] (by repeat' (first | trivial | constructor | rfl)) (by repeat' (first | trivial | constructor | rfl)) (by rfl) (by rfl) (by rfl)
      | false =>
        repeat' (first
    | (with_reducible refine aw_seq ?_)
    | (with_reducible refine kont_in ?_; simp only [go_sem, reduceIte, Nat.reduceLT, Nat.reduceEqDiff, Nat.reduceAdd, Nat.reduceMul, Nat.reduceSub, Nat.reduceLeDiff, reduceCtorEq, hc, hx, hw, ht, eeD_g0, rfR_app1, hap, s1, c1, s2, c2, s3, c3])
    | (with_reducible refine dKont_in ?_; simp only [go_sem, reduceIte, Nat.reduceLT, Nat.reduceEqDiff, Nat.reduceAdd, Nat.reduceMul, Nat.reduceSub, Nat.reduceLeDiff, reduceCtorEq, hc, hx, hw, ht, eeD_g0, rfR_app1, hap, s1, c1, s2, c2, s3, c3])
    | (with_reducible refine aw_drw (by kernel_rfl) hK kDet_nil ?_; simp only [go_sem, reduceIte, Nat.reduceLT, Nat.reduceEqDiff, Nat.reduceAdd, Nat.reduceMul, Nat.reduceSub, Nat.reduceLeDiff, reduceCtorEq, hc, hx, hw, ht, eeD_g0, rfR_app1, hap, s1, c1, s2, c2, s3, c3])
    | (with_reducible refine aw_reg hK ?_; simp only [go_sem, reduceIte, Nat.reduceLT, Nat.reduceEqDiff, Nat.reduceAdd, Nat.reduceMul, Nat.reduceSub, Nat.reduceLeDiff, reduceCtorEq, hc, hx, hw, ht, eeD_g0, rfR_app1, hap, s1, c1, s2, c2, s3, c3])
    | (with_reducible refine aw_if ?_; simp only [go_sem, reduceIte, Nat.reduceLT, Nat.reduceEqDiff, Nat.reduceAdd, Nat.reduceMul, Nat.reduceSub, Nat.reduceLeDiff, reduceCtorEq, hc, hx, hw, ht, eeD_g0, rfR_app1, hap, s1, c1, s2, c2, s3, c3])
    | (with_reducible refine aw_block ?_)
    | (with_reducible refine aw_ret ?_; (try simp only [thenQ, blockQ]); refine aw_ret' ?_; simp only [go_sem, reduceIte, Nat.reduceLT, Nat.reduceEqDiff, Nat.reduceAdd, Nat.reduceMul, Nat.reduceSub, Nat.reduceLeDiff, reduceCtorEq, hc, hx, hw, ht, eeD_g0, rfR_app1, hap, s1, c1, s2, c2, s3, c3])
    | (with_reducible refine aw_exit ?_; simp only [thenQ, blockQ, reduceIte, Nat.reduceEqDiff])
    | (with_reducible refine aw_skip ?_; simp only [thenQ, blockQ])
    | (with_reducible refine gate_intro (fun h => ?_) (fun h => ?_) <;> simp only [h, go_sem, reduceIte, Nat.reduceLT, Nat.reduceEqDiff, Nat.reduceAdd, Nat.reduceMul, Nat.reduceSub, Nat.reduceLeDiff, reduceCtorEq, hc, hx, hw, ht, eeD_g0, rfR_app1, hap, s1, c1, s2, c2, s3, c3] <;> (try simp only [decide_eq_true_eq, decide_eq_false_iff_not, Bool.not_true] at h))
    | (with_reducible refine chk_in (by kernel_rfl) ?_)
    | (with_reducible refine And.intro (And.intro (by omega) (by omega)) ?_)
    | (with_reducible refine And.intro (by omega) ?_)
    | (refine ap_call rfl (foldL d (es.take i)).1 d e rfl (by omega) (memOf_free rfl) ?_)
    | (rw [get_in]; rotate_left; omega; simp only [go_sem, reduceIte, Nat.reduceLT, Nat.reduceEqDiff, Nat.reduceAdd, Nat.reduceMul, Nat.reduceSub, Nat.reduceLeDiff, reduceCtorEq, hc, hx, hw, ht, eeD_g0, rfR_app1, hap, s1, c1, s2, c2, s3, c3])
    | fail)
        refine ⟨i + 1, ?_, ⟨hlt, all_next (P := fun e : EE => e.1.1 ≤ u) hI hx (by simpa using ht)⟩, by omega⟩
        rw [hst, stepR, if_pos (by simpa using hap)]
        exact weak_in [(101, 101), (100, _), (102, 102), (103, _)] (by repeat' (first | trivial | constructor | rfl)) (by repeat' (first | trivial | constructor | rfl)) (by rfl) (by rfl) (by rfl)
theorem rfo_ok : CallOk Try.prog 20 foC := by
  refine ok_of_body_own 74 3 Try.func20 rfl (by decide) Try.ntmps20 (by intro a h; exact ⟨rfl, rfl⟩) (by decide) (by rintro _ a r _ rfl; exact plain3 _ _ _) ?_
  rintro ⟨(l : List EE), d, u⟩ hl
  simp only [foC] at hl ⊢
  simp only [initE, initMm, List.length_cons, List.length_nil, Nat.reduceAdd]
  have s1 : dlC.srt = none := rfl
  have c1 : dlC.clean = true := rfl
  have s2 : eecC.srt = none := rfl
  have c2 : eecC.clean = true := rfl
  have s3 : apC.srt = none := rfl
  have c3 : apC.clean = true := rfl
  have hK : KOk Try.prog (kOf [(42, dlC), (15, eecC), (23, apC)]) := kOk_cons dlR_ok (kOk_cons eeRef_ok (kOk_cons rap_ok kOk_nil))
  have hD : KDet (kOf [(42, dlC), (15, eecC), (23, apC)]) := kDet_cons (fun _ _ => ⟨_, rfl, by simp, fun _ h => h⟩) (kDet_cons (fun _ _ => ⟨_, rfl, by simp, fun _ h => h⟩) (kDet_cons (fun _ _ => ⟨_, rfl, by simp, fun _ h => h⟩) kDet_nil))
  cases hdl : dlV d with
  | false =>
    repeat' (first
    | (with_reducible refine aw_seq ?_)
    | (with_reducible refine kont_in ?_; simp only [go_sem, reduceIte, Nat.reduceLT, Nat.reduceEqDiff, Nat.reduceAdd, Nat.reduceMul, Nat.reduceSub, Nat.reduceLeDiff, reduceCtorEq, s1, c1, s2, c2, s3, c3, hdl])
    | (with_reducible refine dKont_in ?_; simp only [go_sem, reduceIte, Nat.reduceLT, Nat.reduceEqDiff, Nat.reduceAdd, Nat.reduceMul, Nat.reduceSub, Nat.reduceLeDiff, reduceCtorEq, s1, c1, s2, c2, s3, c3, hdl])
    | (with_reducible refine aw_drw (by kernel_rfl) hK hD ?_; simp only [go_sem, reduceIte, Nat.reduceLT, Nat.reduceEqDiff, Nat.reduceAdd, Nat.reduceMul, Nat.reduceSub, Nat.reduceLeDiff, reduceCtorEq, s1, c1, s2, c2, s3, c3, hdl])
    | (with_reducible refine aw_reg hK ?_; simp only [go_sem, reduceIte, Nat.reduceLT, Nat.reduceEqDiff, Nat.reduceAdd, Nat.reduceMul, Nat.reduceSub, Nat.reduceLeDiff, reduceCtorEq, s1, c1, s2, c2, s3, c3, hdl])
    | (with_reducible refine aw_if ?_; simp only [go_sem, reduceIte, Nat.reduceLT, Nat.reduceEqDiff, Nat.reduceAdd, Nat.reduceMul, Nat.reduceSub, Nat.reduceLeDiff, reduceCtorEq, s1, c1, s2, c2, s3, c3, hdl])
    | (with_reducible refine aw_block ?_)
    | (with_reducible refine aw_ret ?_; (try simp only [thenQ, blockQ]); refine aw_ret' ?_; simp only [go_sem, reduceIte, Nat.reduceLT, Nat.reduceEqDiff, Nat.reduceAdd, Nat.reduceMul, Nat.reduceSub, Nat.reduceLeDiff, reduceCtorEq, s1, c1, s2, c2, s3, c3, hdl])
    | (with_reducible refine aw_exit ?_; simp only [thenQ, blockQ, reduceIte, Nat.reduceEqDiff])
    | (with_reducible refine aw_skip ?_; simp only [thenQ, blockQ])
    | (with_reducible refine gate_intro (fun h => ?_) (fun h => ?_) <;> simp only [h, go_sem, reduceIte, Nat.reduceLT, Nat.reduceEqDiff, Nat.reduceAdd, Nat.reduceMul, Nat.reduceSub, Nat.reduceLeDiff, reduceCtorEq, s1, c1, s2, c2, s3, c3, hdl] <;> (try simp only [decide_eq_true_eq, decide_eq_false_iff_not, Bool.not_true] at h))
    | (with_reducible refine chk_in (by kernel_rfl) ?_)
    | (with_reducible refine And.intro (And.intro (by omega) (by omega)) ?_)
    | (with_reducible refine And.intro (by omega) ?_)
    | (refine dlR_call rfl d rfl ?_)
    | (rw [get_in]; rotate_left; omega; simp only [go_sem, reduceIte, Nat.reduceLT, Nat.reduceEqDiff, Nat.reduceAdd, Nat.reduceMul, Nat.reduceSub, Nat.reduceLeDiff, reduceCtorEq, s1, c1, s2, c2, s3, c3, hdl])
    | fail)
    refine ⟨_, rfl, ?_, rfl⟩
    rw [foldR, if_pos hdl]; exact .z _ _ _ (.z _ _ _ (.refl _))
  | true =>
  have hes := evR_len l
  by_cases hc : (evR l).2 = 0
  case neg =>
    have hb : ((evR l).2 != 0) = true := by simpa using hc
    repeat' (first
    | (with_reducible refine aw_seq ?_)
    | (with_reducible refine kont_in ?_; simp only [go_sem, reduceIte, Nat.reduceLT, Nat.reduceEqDiff, Nat.reduceAdd, Nat.reduceMul, Nat.reduceSub, Nat.reduceLeDiff, reduceCtorEq, s1, c1, s2, c2, s3, c3, hdl, hb])
    | (with_reducible refine dKont_in ?_; simp only [go_sem, reduceIte, Nat.reduceLT, Nat.reduceEqDiff, Nat.reduceAdd, Nat.reduceMul, Nat.reduceSub, Nat.reduceLeDiff, reduceCtorEq, s1, c1, s2, c2, s3, c3, hdl, hb])
    | (with_reducible refine aw_drw (by kernel_rfl) hK hD ?_; simp only [go_sem, reduceIte, Nat.reduceLT, Nat.reduceEqDiff, Nat.reduceAdd, Nat.reduceMul, Nat.reduceSub, Nat.reduceLeDiff, reduceCtorEq, s1, c1, s2, c2, s3, c3, hdl, hb])
    | (with_reducible refine aw_reg hK ?_; simp only [go_sem, reduceIte, Nat.reduceLT, Nat.reduceEqDiff, Nat.reduceAdd, Nat.reduceMul, Nat.reduceSub, Nat.reduceLeDiff, reduceCtorEq, s1, c1, s2, c2, s3, c3, hdl, hb])
    | (with_reducible refine aw_if ?_; simp only [go_sem, reduceIte, Nat.reduceLT, Nat.reduceEqDiff, Nat.reduceAdd, Nat.reduceMul, Nat.reduceSub, Nat.reduceLeDiff, reduceCtorEq, s1, c1, s2, c2, s3, c3, hdl, hb])
    | (with_reducible refine aw_block ?_)
    | (with_reducible refine aw_ret ?_; (try simp only [thenQ, blockQ]); refine aw_ret' ?_; simp only [go_sem, reduceIte, Nat.reduceLT, Nat.reduceEqDiff, Nat.reduceAdd, Nat.reduceMul, Nat.reduceSub, Nat.reduceLeDiff, reduceCtorEq, s1, c1, s2, c2, s3, c3, hdl, hb])
    | (with_reducible refine aw_exit ?_; simp only [thenQ, blockQ, reduceIte, Nat.reduceEqDiff])
    | (with_reducible refine aw_skip ?_; simp only [thenQ, blockQ])
    | (with_reducible refine gate_intro (fun h => ?_) (fun h => ?_) <;> simp only [h, go_sem, reduceIte, Nat.reduceLT, Nat.reduceEqDiff, Nat.reduceAdd, Nat.reduceMul, Nat.reduceSub, Nat.reduceLeDiff, reduceCtorEq, s1, c1, s2, c2, s3, c3, hdl, hb] <;> (try simp only [decide_eq_true_eq, decide_eq_false_iff_not, Bool.not_true] at h))
    | (with_reducible refine chk_in (by kernel_rfl) ?_)
    | (with_reducible refine And.intro (And.intro (by omega) (by omega)) ?_)
    | (with_reducible refine And.intro (by omega) ?_)
    | (refine dlR_call rfl d rfl ?_)
    | (refine can_call rfl l rfl hl (memOf_free rfl) ?_)
    | (rw [get_in]; rotate_left; omega; simp only [go_sem, reduceIte, Nat.reduceLT, Nat.reduceEqDiff, Nat.reduceAdd, Nat.reduceMul, Nat.reduceSub, Nat.reduceLeDiff, reduceCtorEq, s1, c1, s2, c2, s3, c3, hdl, hb])
    | fail)
    refine ⟨_, rfl, ?_, rfl⟩
    rw [foldR, if_neg (by simp [hdl]), if_pos hc]; exact .z _ _ _ (.z _ _ _ (.refl _))
  have hb : ((0 : Int) != 0) = false := rfl
  have hfo : foldR l d u = ((foldL d ((evR l).1.filter fun e => decide (e.1.1 ≤ u))).1, (foldL d ((evR l).1.filter fun e => decide (e.1.1 ≤ u))).2, 0) := by
    rw [foldR, if_neg (by simp [hdl]), if_neg (by simp [hc])]
  rw [hfo]
  clear hfo
  generalize he : (evR l).1 = es at *
  generalize hcc : (evR l).2 = cc at *
  subst hc
  repeat' (first
    | (with_reducible refine aw_seq ?_)
    | (with_reducible refine kont_in ?_; simp only [go_sem, reduceIte, Nat.reduceLT, Nat.reduceEqDiff, Nat.reduceAdd, Nat.reduceMul, Nat.reduceSub, Nat.reduceLeDiff, reduceCtorEq, s1, c1, s2, c2, s3, c3, hdl, hb, he, hcc])
    | (with_reducible refine dKont_in ?_; simp only [go_sem, reduceIte, Nat.reduceLT, Nat.reduceEqDiff, Nat.reduceAdd, Nat.reduceMul, Nat.reduceSub, Nat.reduceLeDiff, reduceCtorEq, s1, c1, s2, c2, s3, c3, hdl, hb, he, hcc])
    | (with_reducible refine aw_drw (by kernel_rfl) hK hD ?_; simp only [go_sem, reduceIte, Nat.reduceLT, Nat.reduceEqDiff, Nat.reduceAdd, Nat.reduceMul, Nat.reduceSub, Nat.reduceLeDiff, reduceCtorEq, s1, c1, s2, c2, s3, c3, hdl, hb, he, hcc])
    | (with_reducible refine aw_reg hK ?_; simp only [go_sem, reduceIte, Nat.reduceLT, Nat.reduceEqDiff, Nat.reduceAdd, Nat.reduceMul, Nat.reduceSub, Nat.reduceLeDiff, reduceCtorEq, s1, c1, s2, c2, s3, c3, hdl, hb, he, hcc])
    | (with_reducible refine aw_if ?_; simp only [go_sem, reduceIte, Nat.reduceLT, Nat.reduceEqDiff, Nat.reduceAdd, Nat.reduceMul, Nat.reduceSub, Nat.reduceLeDiff, reduceCtorEq, s1, c1, s2, c2, s3, c3, hdl, hb, he, hcc])
    | (with_reducible refine aw_block ?_)
    | (with_reducible refine aw_ret ?_; (try simp only [thenQ, blockQ]); refine aw_ret' ?_; simp only [go_sem, reduceIte, Nat.reduceLT, Nat.reduceEqDiff, Nat.reduceAdd, Nat.reduceMul, Nat.reduceSub, Nat.reduceLeDiff, reduceCtorEq, s1, c1, s2, c2, s3, c3, hdl, hb, he, hcc])
    | (with_reducible refine aw_exit ?_; simp only [thenQ, blockQ, reduceIte, Nat.reduceEqDiff])
    | (with_reducible refine aw_skip ?_; simp only [thenQ, blockQ])
    | (with_reducible refine gate_intro (fun h => ?_) (fun h => ?_) <;> simp only [h, go_sem, reduceIte, Nat.reduceLT, Nat.reduceEqDiff, Nat.reduceAdd, Nat.reduceMul, Nat.reduceSub, Nat.reduceLeDiff, reduceCtorEq, s1, c1, s2, c2, s3, c3, hdl, hb, he, hcc] <;> (try simp only [decide_eq_true_eq, decide_eq_false_iff_not, Bool.not_true] at h))
    | (with_reducible refine chk_in (by kernel_rfl) ?_)
    | (with_reducible refine And.intro (And.intro (by omega) (by omega)) ?_)
    | (with_reducible refine And.intro (by omega) ?_)
    | (refine dlR_call rfl d rfl ?_)
    | (refine can_call rfl l rfl hl (memOf_free rfl) ?_)
    | (rw [get_in]; rotate_left; omega; simp only [go_sem, reduceIte, Nat.reduceLT, Nat.reduceEqDiff, Nat.reduceAdd, Nat.reduceMul, Nat.reduceSub, Nat.reduceLeDiff, reduceCtorEq, s1, c1, s2, c2, s3, c3, hdl, hb, he, hcc])
    | fail)
  refine aw_nil 11 400 4 rfl rfl ?_
  refine aw_nil 12 401 3 rfl rfl ?_
  refine aw_rounds (α := Nat) (fun i => ⟨envOf [(13, i64 i), (9, .row 101), (11, .row 100), (12, .row 102), (4, .box 103 0), (2, i64 u)], memOf [(101, .row 8 (eeR es) true), (100, .row 4 (erR (foldL d ((es.take i).filter fun e => decide (e.1.1 ≤ u))).1) true), (102, .row 3 (rfR (foldL d ((es.take i).filter fun e => decide (e.1.1 ≤ u))).2) true), (103, .cells (dlD d))], 200⟩)
    (fun i => i ≤ es.length) (fun i => es.length - i) 0 (Nat.zero_le _) (weak_in [(101, 35), (100, 400), (102, 401), (103, 3)] (by repeat' (first | trivial | constructor | rfl)) (by repeat' (first | trivial | constructor | rfl)) (by rfl) (by rfl) (by rfl)) ?_
  intro i hi
  have hva := foldL_va d ((es.take i).filter fun e => decide (e.1.1 ≤ u))
  have hol := (vaL_iff.1 hva).1
  have hrl := foldL_rf d ((es.take i).filter fun e => decide (e.1.1 ≤ u))
  have hrl2 : ((es.take i).filter fun e => decide (e.1.1 ≤ u)).length ≤ i := Nat.le_trans (List.length_filter_le _ _) (by simp; omega)
  cases hx : es[i]? with
  | none =>
    have hge : es.length ≤ i := by simpa using hx
    have hc : decide ((i : Int) < (es.length : Int)) = false := by simp <;> omega
    repeat' (first
    | (with_reducible refine aw_seq ?_)
    | (with_reducible refine kont_in ?_; simp only [go_sem, reduceIte, Nat.reduceLT, Nat.reduceEqDiff, Nat.reduceAdd, Nat.reduceMul, Nat.reduceSub, Nat.reduceLeDiff, reduceCtorEq, hc, s1, c1, s2, c2, s3, c3])
    | (with_reducible refine dKont_in ?_; simp only [go_sem, reduceIte, Nat.reduceLT, Nat.reduceEqDiff, Nat.reduceAdd, Nat.reduceMul, Nat.reduceSub, Nat.reduceLeDiff, reduceCtorEq, hc, s1, c1, s2, c2, s3, c3])
    | (with_reducible refine aw_drw (by kernel_rfl) hK hD ?_; simp only [go_sem, reduceIte, Nat.reduceLT, Nat.reduceEqDiff, Nat.reduceAdd, Nat.reduceMul, Nat.reduceSub, Nat.reduceLeDiff, reduceCtorEq, hc, s1, c1, s2, c2, s3, c3])
    | (with_reducible refine aw_reg hK ?_; simp only [go_sem, reduceIte, Nat.reduceLT, Nat.reduceEqDiff, Nat.reduceAdd, Nat.reduceMul, Nat.reduceSub, Nat.reduceLeDiff, reduceCtorEq, hc, s1, c1, s2, c2, s3, c3])
    | (with_reducible refine aw_if ?_; simp only [go_sem, reduceIte, Nat.reduceLT, Nat.reduceEqDiff, Nat.reduceAdd, Nat.reduceMul, Nat.reduceSub, Nat.reduceLeDiff, reduceCtorEq, hc, s1, c1, s2, c2, s3, c3])
    | (with_reducible refine aw_block ?_)
    | (with_reducible refine aw_ret ?_; (try simp only [thenQ, blockQ]); refine aw_ret' ?_; simp only [go_sem, reduceIte, Nat.reduceLT, Nat.reduceEqDiff, Nat.reduceAdd, Nat.reduceMul, Nat.reduceSub, Nat.reduceLeDiff, reduceCtorEq, hc, s1, c1, s2, c2, s3, c3])
    | (with_reducible refine aw_exit ?_; simp only [thenQ, blockQ, reduceIte, Nat.reduceEqDiff])
    | (with_reducible refine aw_skip ?_; simp only [thenQ, blockQ])
    | (with_reducible refine gate_intro (fun h => ?_) (fun h => ?_) <;> simp only [h, go_sem, reduceIte, Nat.reduceLT, Nat.reduceEqDiff, Nat.reduceAdd, Nat.reduceMul, Nat.reduceSub, Nat.reduceLeDiff, reduceCtorEq, hc, s1, c1, s2, c2, s3, c3] <;> (try simp only [decide_eq_true_eq, decide_eq_false_iff_not, Bool.not_true] at h))
    | (with_reducible refine chk_in (by kernel_rfl) ?_)
    | (with_reducible refine And.intro (And.intro (by omega) (by omega)) ?_)
    | (with_reducible refine And.intro (by omega) ?_)
    | (rw [get_in]; rotate_left; omega; simp only [go_sem, reduceIte, Nat.reduceLT, Nat.reduceEqDiff, Nat.reduceAdd, Nat.reduceMul, Nat.reduceSub, Nat.reduceLeDiff, reduceCtorEq, hc, s1, c1, s2, c2, s3, c3])
    | fail)
    refine ⟨_, rfl, ?_, rfl⟩
    rw [List.take_of_length_le hge]; exact .refl _
  | some e =>
    have hlt : i < es.length := (List.getElem?_eq_some_iff.1 hx).1
    have hc : decide ((i : Int) < (es.length : Int)) = true := by simp <;> omega
    have hw := wrS (i := i) (by omega)
    have ht : es.take (i + 1) = es.take i ++ [e] := by rw [List.take_add_one, hx]; rfl
    cases ht2 : decide (e.1.1 > u) with
    | true =>
      have hf : (es.take (i + 1)).filter (fun e => decide (e.1.1 ≤ u)) = (es.take i).filter fun e => decide (e.1.1 ≤ u) := by
        rw [ht, List.filter_append, List.filter_cons_of_neg (by simp at ht2; simp; omega), List.filter_nil, List.append_nil]
      repeat' (first
    | (with_reducible refine aw_seq ?_)
    | (with_reducible refine kont_in ?_; simp only [go_sem, reduceIte, Nat.reduceLT, Nat.reduceEqDiff, Nat.reduceAdd, Nat.reduceMul, Nat.reduceSub, Nat.reduceLeDiff, reduceCtorEq, hc, hx, hw, ht2, eeD_g0, s1, c1, s2, c2, s3, c3])
    | (with_reducible refine dKont_in ?_; simp only [go_sem, reduceIte, Nat.reduceLT, Nat.reduceEqDiff, Nat.reduceAdd, Nat.reduceMul, Nat.reduceSub, Nat.reduceLeDiff, reduceCtorEq, hc, hx, hw, ht2, eeD_g0, s1, c1, s2, c2, s3, c3])
    | (with_reducible refine aw_drw (by kernel_rfl) hK hD ?_; simp only [go_sem, reduceIte, Nat.reduceLT, Nat.reduceEqDiff, Nat.reduceAdd, Nat.reduceMul, Nat.reduceSub, Nat.reduceLeDiff, reduceCtorEq, hc, hx, hw, ht2, eeD_g0, s1, c1, s2, c2, s3, c3])
    | (with_reducible refine aw_reg hK ?_; simp only [go_sem, reduceIte, Nat.reduceLT, Nat.reduceEqDiff, Nat.reduceAdd, Nat.reduceMul, Nat.reduceSub, Nat.reduceLeDiff, reduceCtorEq, hc, hx, hw, ht2, eeD_g0, s1, c1, s2, c2, s3, c3])
    | (with_reducible refine aw_if ?_; simp only [go_sem, reduceIte, Nat.reduceLT, Nat.reduceEqDiff, Nat.reduceAdd, Nat.reduceMul, Nat.reduceSub, Nat.reduceLeDiff, reduceCtorEq, hc, hx, hw, ht2, eeD_g0, s1, c1, s2, c2, s3, c3])
    | (with_reducible refine aw_block ?_)
    | (with_reducible refine aw_ret ?_; (try simp only [thenQ, blockQ]); refine aw_ret' ?_; simp only [go_sem, reduceIte, Nat.reduceLT, Nat.reduceEqDiff, Nat.reduceAdd, Nat.reduceMul, Nat.reduceSub, Nat.reduceLeDiff, reduceCtorEq, hc, hx, hw, ht2, eeD_g0, s1, c1, s2, c2, s3, c3])
    | (with_reducible refine aw_exit ?_; simp only [thenQ, blockQ, reduceIte, Nat.reduceEqDiff])
    | (with_reducible refine aw_skip ?_; simp only [thenQ, blockQ])
    | (with_reducible refine gate_intro (fun h => ?_) (fun h => ?_) <;> simp only [h, go_sem, reduceIte, Nat.reduceLT, Nat.reduceEqDiff, Nat.reduceAdd, Nat.reduceMul, Nat.reduceSub, Nat.reduceLeDiff, reduceCtorEq, hc, hx, hw, ht2, eeD_g0, s1, c1, s2, c2, s3, c3] <;> (try simp only [decide_eq_true_eq, decide_eq_false_iff_not, Bool.not_true] at h))
    | (with_reducible refine chk_in (by kernel_rfl) ?_)
    | (with_reducible refine And.intro (And.intro (by omega) (by omega)) ?_)
    | (with_reducible refine And.intro (by omega) ?_)
    | (rw [get_in]; rotate_left; omega; simp only [go_sem, reduceIte, Nat.reduceLT, Nat.reduceEqDiff, Nat.reduceAdd, Nat.reduceMul, Nat.reduceSub, Nat.reduceLeDiff, reduceCtorEq, hc, hx, hw, ht2, eeD_g0, s1, c1, s2, c2, s3, c3])
    | fail)
      refine ⟨i + 1, ?_, hlt, by omega⟩
      rw [hf]
      exact weak_in [(100, 100), (101, 101), (102, 102), (103, _)] (by repeat' (first | trivial | constructor | rfl)) (by repeat' (first | trivial | constructor | rfl)) (by rfl) (by rfl) (by rfl)
    | false =>
      have hf : (es.take (i + 1)).filter (fun e => decide (e.1.1 ≤ u)) = ((es.take i).filter fun e => decide (e.1.1 ≤ u)) ++ [e] := by
        rw [ht, List.filter_append, List.filter_cons_of_pos (by simp at ht2; simp; omega), List.filter_nil]
      have hst : foldL d ((es.take (i + 1)).filter fun e => decide (e.1.1 ≤ u)) = stepR d (foldL d ((es.take i).filter fun e => decide (e.1.1 ≤ u))) e := by rw [hf, foldL_app]
      generalize foldL d ((es.take i).filter fun e => decide (e.1.1 ≤ u)) = p at *
      cases hap : (applyR p.1 d e).2 != 0 with
      | true =>
        repeat' (first
    | (with_reducible refine aw_seq ?_)
    | (with_reducible refine kont_in ?_; simp only [go_sem, reduceIte, Nat.reduceLT, Nat.reduceEqDiff, Nat.reduceAdd, Nat.reduceMul, Nat.reduceSub, Nat.reduceLeDiff, reduceCtorEq, hc, hx, hw, ht2, eeD_g0, eeD_g1, eeD_g2, rfR_app1, hap, s1, c1, s2, c2, s3, c3])
    | (with_reducible refine dKont_in ?_; simp only [go_sem, reduceIte, Nat.reduceLT, Nat.reduceEqDiff, Nat.reduceAdd, Nat.reduceMul, Nat.reduceSub, Nat.reduceLeDiff, reduceCtorEq, hc, hx, hw, ht2, eeD_g0, eeD_g1, eeD_g2, rfR_app1, hap, s1, c1, s2, c2, s3, c3])
    | (with_reducible refine aw_drw (by kernel_rfl) hK hD ?_; simp only [go_sem, reduceIte, Nat.reduceLT, Nat.reduceEqDiff, Nat.reduceAdd, Nat.reduceMul, Nat.reduceSub, Nat.reduceLeDiff, reduceCtorEq, hc, hx, hw, ht2, eeD_g0, eeD_g1, eeD_g2, rfR_app1, hap, s1, c1, s2, c2, s3, c3])
    | (with_reducible refine aw_reg hK ?_; simp only [go_sem, reduceIte, Nat.reduceLT, Nat.reduceEqDiff, Nat.reduceAdd, Nat.reduceMul, Nat.reduceSub, Nat.reduceLeDiff, reduceCtorEq, hc, hx, hw, ht2, eeD_g0, eeD_g1, eeD_g2, rfR_app1, hap, s1, c1, s2, c2, s3, c3])
    | (with_reducible refine aw_if ?_; simp only [go_sem, reduceIte, Nat.reduceLT, Nat.reduceEqDiff, Nat.reduceAdd, Nat.reduceMul, Nat.reduceSub, Nat.reduceLeDiff, reduceCtorEq, hc, hx, hw, ht2, eeD_g0, eeD_g1, eeD_g2, rfR_app1, hap, s1, c1, s2, c2, s3, c3])
    | (with_reducible refine aw_block ?_)
    | (with_reducible refine aw_ret ?_; (try simp only [thenQ, blockQ]); refine aw_ret' ?_; simp only [go_sem, reduceIte, Nat.reduceLT, Nat.reduceEqDiff, Nat.reduceAdd, Nat.reduceMul, Nat.reduceSub, Nat.reduceLeDiff, reduceCtorEq, hc, hx, hw, ht2, eeD_g0, eeD_g1, eeD_g2, rfR_app1, hap, s1, c1, s2, c2, s3, c3])
    | (with_reducible refine aw_exit ?_; simp only [thenQ, blockQ, reduceIte, Nat.reduceEqDiff])
    | (with_reducible refine aw_skip ?_; simp only [thenQ, blockQ])
    | (with_reducible refine gate_intro (fun h => ?_) (fun h => ?_) <;> simp only [h, go_sem, reduceIte, Nat.reduceLT, Nat.reduceEqDiff, Nat.reduceAdd, Nat.reduceMul, Nat.reduceSub, Nat.reduceLeDiff, reduceCtorEq, hc, hx, hw, ht2, eeD_g0, eeD_g1, eeD_g2, rfR_app1, hap, s1, c1, s2, c2, s3, c3] <;> (try simp only [decide_eq_true_eq, decide_eq_false_iff_not, Bool.not_true] at h))
    | (with_reducible refine chk_in (by kernel_rfl) ?_)
    | (with_reducible refine And.intro (And.intro (by omega) (by omega)) ?_)
    | (with_reducible refine And.intro (by omega) ?_)
    | (refine ap_call rfl p.1 d e rfl (by omega) (memOf_free rfl) ?_)
    | (rw [get_in]; rotate_left; omega; simp only [go_sem, reduceIte, Nat.reduceLT, Nat.reduceEqDiff, Nat.reduceAdd, Nat.reduceMul, Nat.reduceSub, Nat.reduceLeDiff, reduceCtorEq, hc, hx, hw, ht2, eeD_g0, eeD_g1, eeD_g2, rfR_app1, hap, s1, c1, s2, c2, s3, c3])
    | fail)
        refine ⟨i + 1, ?_, hlt, by omega⟩
        rw [hst, stepR, if_neg (by simpa using hap)]
        exact weak_in [(100, 100), (101, 101), (102, _), (103, _)] (by repeat' (first | trivial | constructor | rfl)) (by repeat' (first | trivial | constructor | rfl)) (by rfl) (by rfl) (by rfl)
      | false =>
        repeat' (first
    | (with_reducible refine aw_seq ?_)
    | (with_reducible refine kont_in ?_; simp only [go_sem, reduceIte, Nat.reduceLT, Nat.reduceEqDiff, Nat.reduceAdd, Nat.reduceMul, Nat.reduceSub, Nat.reduceLeDiff, reduceCtorEq, hc, hx, hw, ht2, eeD_g0, hap, s1, c1, s2, c2, s3, c3])
    | (with_reducible refine dKont_in ?_; simp only [go_sem, reduceIte, Nat.reduceLT, Nat.reduceEqDiff, Nat.reduceAdd, Nat.reduceMul, Nat.reduceSub, Nat.reduceLeDiff, reduceCtorEq, hc, hx, hw, ht2, eeD_g0, hap, s1, c1, s2, c2, s3, c3])
    | (with_reducible refine aw_drw (by kernel_rfl) hK hD ?_; simp only [go_sem, reduceIte, Nat.reduceLT, Nat.reduceEqDiff, Nat.reduceAdd, Nat.reduceMul, Nat.reduceSub, Nat.reduceLeDiff, reduceCtorEq, hc, hx, hw, ht2, eeD_g0, hap, s1, c1, s2, c2, s3, c3])
    | (with_reducible refine aw_reg hK ?_; simp only [go_sem, reduceIte, Nat.reduceLT, Nat.reduceEqDiff, Nat.reduceAdd, Nat.reduceMul, Nat.reduceSub, Nat.reduceLeDiff, reduceCtorEq, hc, hx, hw, ht2, eeD_g0, hap, s1, c1, s2, c2, s3, c3])
    | (with_reducible refine aw_if ?_; simp only [go_sem, reduceIte, Nat.reduceLT, Nat.reduceEqDiff, Nat.reduceAdd, Nat.reduceMul, Nat.reduceSub, Nat.reduceLeDiff, reduceCtorEq, hc, hx, hw, ht2, eeD_g0, hap, s1, c1, s2, c2, s3, c3])
    | (with_reducible refine aw_block ?_)
    | (with_reducible refine aw_ret ?_; (try simp only [thenQ, blockQ]); refine aw_ret' ?_; simp only [go_sem, reduceIte, Nat.reduceLT, Nat.reduceEqDiff, Nat.reduceAdd, Nat.reduceMul, Nat.reduceSub, Nat.reduceLeDiff, reduceCtorEq, hc, hx, hw, ht2, eeD_g0, hap, s1, c1, s2, c2, s3, c3])
    | (with_reducible refine aw_exit ?_; simp only [thenQ, blockQ, reduceIte, Nat.reduceEqDiff])
    | (with_reducible refine aw_skip ?_; simp only [thenQ, blockQ])
    | (with_reducible refine gate_intro (fun h => ?_) (fun h => ?_) <;> simp only [h, go_sem, reduceIte, Nat.reduceLT, Nat.reduceEqDiff, Nat.reduceAdd, Nat.reduceMul, Nat.reduceSub, Nat.reduceLeDiff, reduceCtorEq, hc, hx, hw, ht2, eeD_g0, hap, s1, c1, s2, c2, s3, c3] <;> (try simp only [decide_eq_true_eq, decide_eq_false_iff_not, Bool.not_true] at h))
    | (with_reducible refine chk_in (by kernel_rfl) ?_)
    | (with_reducible refine And.intro (And.intro (by omega) (by omega)) ?_)
    | (with_reducible refine And.intro (by omega) ?_)
    | (refine ap_call rfl p.1 d e rfl (by omega) (memOf_free rfl) ?_)
    | (rw [get_in]; rotate_left; omega; simp only [go_sem, reduceIte, Nat.reduceLT, Nat.reduceEqDiff, Nat.reduceAdd, Nat.reduceMul, Nat.reduceSub, Nat.reduceLeDiff, reduceCtorEq, hc, hx, hw, ht2, eeD_g0, hap, s1, c1, s2, c2, s3, c3])
    | fail)
        refine ⟨i + 1, ?_, hlt, by omega⟩
        rw [hst, stepR, if_pos (by simpa using hap)]
        exact weak_in [(101, 101), (100, _), (102, 102), (103, _)] (by repeat' (first | trivial | constructor | rfl)) (by repeat' (first | trivial | constructor | rfl)) (by rfl) (by rfl) (by rfl)
end Go.Proofs.R1

/- Entries: same, refusals, Find, Paper. -/
set_option linter.unusedVariables false
set_option linter.unusedSimpArgs false
set_option maxRecDepth 8000
set_option maxHeartbeats 4000000
namespace Go.Proofs.R1
open Go Go.Abs

theorem erD_eqc (a b : Er) : eqCells (erD a) (erD b) = some (decide (a = b)) := by
  obtain ⟨⟨x1, x2, x3⟩, x4⟩ := a; obtain ⟨⟨y1, y2, y3⟩, y4⟩ := b
  simp only [erD, eqCells, if_true, Option.map_some, Prod.mk.injEq, Option.some.injEq, Bool.and_true]
  rw [Bool.eq_iff_iff]; simp [and_assoc]
@[go_sem] theorem erD_kd (a : Er) : (erD a).map kdD = [0, 0, 0, 1] := rfl
theorem rfD_eqc (a b : Rf) : eqCells (rfD a) (rfD b) = some (decide (a = b)) := by
  obtain ⟨⟨x1, x2⟩, x3⟩ := a; obtain ⟨⟨y1, y2⟩, y3⟩ := b
  simp only [rfD, eqCells, if_true, Option.map_some, Prod.mk.injEq, Option.some.injEq, Bool.and_true]
  rw [Bool.eq_iff_iff]; simp [and_assoc]
@[go_sem] theorem rfD_kd (a : Rf) : (rfD a).map kdD = [0, 0, 0] := rfl
theorem list_eq_iff {α : Type} {a b : List α} (hl : a.length = b.length) : a = b ↔ ∀ (i : Nat) (x y : α), a[i]? = some x → b[i]? = some y → x = y := by
  constructor
  · rintro rfl i x y h1 h2; rw [h1] at h2; exact Option.some.inj h2
  · intro h
    apply List.ext_getElem hl
    intro i h1 h2
    exact h i _ _ (List.getElem?_eq_getElem h1) (List.getElem?_eq_getElem h2)
theorem eq_upto {α : Type} {a b : List α} {i : Nat} {x y : α} (hI : ∀ k x y, k < i → a[k]? = some x → b[k]? = some y → x = y) (hx : a[i]? = some x) (hy : b[i]? = some y) (h : x = y) : ∀ k x y, k < i + 1 → a[k]? = some x → b[k]? = some y → x = y := by
  intro k u v hk hu hv
  rcases Nat.lt_or_ge k i with h1 | h1
  · exact hI k u v h1 hu hv
  · have : k = i := by omega
    subst this; rw [hx] at hu; rw [hy] at hv; cases hu; cases hv; exact h
abbrev smC : Con where
  α := List Er × List Er
  kinds := [false, false]
  args := fun a => [.d (.sl 4 (erR a.1)), .d (.sl 4 (erR a.2))]
  pre := fun a => a.1.length ≤ 1000000 ∧ a.2.length ≤ 1000000
  post := fun a r => r = ⟨[.d (bl (decide (a.1 = a.2)))], []⟩
  clean := true
theorem sm_ok : CallOk Try.prog 24 smC := by
  refine ok_of_body' 26 2 Try.func24 rfl (by decide) Try.ntmps24 (by intro a h; exact ⟨rfl, rfl⟩) (by decide) (by rintro _ a r _ rfl; rfl) ?_
  rintro ⟨(a : List Er), (b : List Er)⟩ ⟨ha, hb⟩
  simp only [smC] at ha hb ⊢
  simp only [initE, initMm, List.length_cons, List.length_nil, Nat.reduceAdd]
  by_cases hl : a.length = b.length
  case neg =>
    have hc : ((a.length : Int) != (b.length : Int)) = true := by simp; omega
    repeat' (first
    | (with_reducible refine aw_seq ?_)
    | (with_reducible refine kont_in ?_; simp only [go_sem, reduceIte, Nat.reduceLT, Nat.reduceEqDiff, Nat.reduceAdd, Nat.reduceMul, Nat.reduceSub, Nat.reduceLeDiff, reduceCtorEq, hc])
    | (with_reducible refine dKont_in ?_; simp only [go_sem, reduceIte, Nat.reduceLT, Nat.reduceEqDiff, Nat.reduceAdd, Nat.reduceMul, Nat.reduceSub, Nat.reduceLeDiff, reduceCtorEq, hc])
    | (with_reducible refine aw_drw (by kernel_rfl) kOk_nil kDet_nil ?_; simp only [go_sem, reduceIte, Nat.reduceLT, Nat.reduceEqDiff, Nat.reduceAdd, Nat.reduceMul, Nat.reduceSub, Nat.reduceLeDiff, reduceCtorEq, hc])
    | (with_reducible refine aw_reg kOk_nil ?_; simp only [go_sem, reduceIte, Nat.reduceLT, Nat.reduceEqDiff, Nat.reduceAdd, Nat.reduceMul, Nat.reduceSub, Nat.reduceLeDiff, reduceCtorEq, hc])
    | (with_reducible refine aw_if ?_; simp only [go_sem, reduceIte, Nat.reduceLT, Nat.reduceEqDiff, Nat.reduceAdd, Nat.reduceMul, Nat.reduceSub, Nat.reduceLeDiff, reduceCtorEq, hc])
    | (with_reducible refine aw_block ?_)
    | (with_reducible refine aw_ret ?_; (try simp only [thenQ, blockQ]); refine aw_ret' ?_; simp only [go_sem, reduceIte, Nat.reduceLT, Nat.reduceEqDiff, Nat.reduceAdd, Nat.reduceMul, Nat.reduceSub, Nat.reduceLeDiff, reduceCtorEq, hc])
    | (with_reducible refine aw_exit ?_; simp only [thenQ, blockQ, reduceIte, Nat.reduceEqDiff])
    | (with_reducible refine aw_skip ?_; simp only [thenQ, blockQ])
    | (with_reducible refine gate_intro (fun h => ?_) (fun h => ?_) <;> simp only [h, go_sem, reduceIte, Nat.reduceLT, Nat.reduceEqDiff, Nat.reduceAdd, Nat.reduceMul, Nat.reduceSub, Nat.reduceLeDiff, reduceCtorEq, hc] <;> (try simp only [decide_eq_true_eq, decide_eq_false_iff_not, Bool.not_true] at h))
    | (with_reducible refine chk_in (by kernel_rfl) ?_)
    | (with_reducible refine And.intro (And.intro (by omega) (by omega)) ?_)
    | (with_reducible refine And.intro (by omega) ?_)
    | (rw [get_in]; rotate_left; omega; simp only [go_sem, reduceIte, Nat.reduceLT, Nat.reduceEqDiff, Nat.reduceAdd, Nat.reduceMul, Nat.reduceSub, Nat.reduceLeDiff, reduceCtorEq, hc])
    | fail)
    rw [decide_eq_false (fun h => hl (by rw [h]))]
  have hc : ((b.length : Int) != (b.length : Int)) = false := by simp
  repeat' (first
    | (with_reducible refine aw_seq ?_)
    | (with_reducible refine kont_in ?_; simp only [go_sem, reduceIte, Nat.reduceLT, Nat.reduceEqDiff, Nat.reduceAdd, Nat.reduceMul, Nat.reduceSub, Nat.reduceLeDiff, reduceCtorEq, hc, hl])
    | (with_reducible refine dKont_in ?_; simp only [go_sem, reduceIte, Nat.reduceLT, Nat.reduceEqDiff, Nat.reduceAdd, Nat.reduceMul, Nat.reduceSub, Nat.reduceLeDiff, reduceCtorEq, hc, hl])
    | (with_reducible refine aw_drw (by kernel_rfl) kOk_nil kDet_nil ?_; simp only [go_sem, reduceIte, Nat.reduceLT, Nat.reduceEqDiff, Nat.reduceAdd, Nat.reduceMul, Nat.reduceSub, Nat.reduceLeDiff, reduceCtorEq, hc, hl])
    | (with_reducible refine aw_reg kOk_nil ?_; simp only [go_sem, reduceIte, Nat.reduceLT, Nat.reduceEqDiff, Nat.reduceAdd, Nat.reduceMul, Nat.reduceSub, Nat.reduceLeDiff, reduceCtorEq, hc, hl])
    | (with_reducible refine aw_if ?_; simp only [go_sem, reduceIte, Nat.reduceLT, Nat.reduceEqDiff, Nat.reduceAdd, Nat.reduceMul, Nat.reduceSub, Nat.reduceLeDiff, reduceCtorEq, hc, hl])
    | (with_reducible refine aw_block ?_)
    | (with_reducible refine aw_ret ?_; (try simp only [thenQ, blockQ]); refine aw_ret' ?_; simp only [go_sem, reduceIte, Nat.reduceLT, Nat.reduceEqDiff, Nat.reduceAdd, Nat.reduceMul, Nat.reduceSub, Nat.reduceLeDiff, reduceCtorEq, hc, hl])
    | (with_reducible refine aw_exit ?_; simp only [thenQ, blockQ, reduceIte, Nat.reduceEqDiff])
    | (with_reducible refine aw_skip ?_; simp only [thenQ, blockQ])
    | (with_reducible refine gate_intro (fun h => ?_) (fun h => ?_) <;> simp only [h, go_sem, reduceIte, Nat.reduceLT, Nat.reduceEqDiff, Nat.reduceAdd, Nat.reduceMul, Nat.reduceSub, Nat.reduceLeDiff, reduceCtorEq, hc, hl] <;> (try simp only [decide_eq_true_eq, decide_eq_false_iff_not, Bool.not_true] at h))
    | (with_reducible refine chk_in (by kernel_rfl) ?_)
    | (with_reducible refine And.intro (And.intro (by omega) (by omega)) ?_)
    | (with_reducible refine And.intro (by omega) ?_)
    | (rw [get_in]; rotate_left; omega; simp only [go_sem, reduceIte, Nat.reduceLT, Nat.reduceEqDiff, Nat.reduceAdd, Nat.reduceMul, Nat.reduceSub, Nat.reduceLeDiff, reduceCtorEq, hc, hl])
    | fail)
  refine aw_rounds (α := Nat) (fun i => ⟨envOf [(5, i64 i), (0, .sl 4 (erR a)), (1, .sl 4 (erR b))], memOf [], 200⟩)
    (fun i => i ≤ a.length ∧ ∀ k x y, k < i → a[k]? = some x → b[k]? = some y → x = y) (fun i => a.length - i) 0 ⟨Nat.zero_le _, fun k x y h => by omega⟩ (weak_in [] (by repeat' (first | trivial | constructor | rfl)) (by repeat' (first | trivial | constructor | rfl)) (by rfl) (by rfl) (by rfl)) ?_
  rintro i ⟨hi, hI⟩
  cases hx : a[i]? with
  | none =>
    have hge : a.length ≤ i := by simpa using hx
    have hc : decide ((i : Int) < (a.length : Int)) = false := by simp <;> omega
    repeat' (first
    | (with_reducible refine aw_seq ?_)
    | (with_reducible refine kont_in ?_; simp only [go_sem, reduceIte, Nat.reduceLT, Nat.reduceEqDiff, Nat.reduceAdd, Nat.reduceMul, Nat.reduceSub, Nat.reduceLeDiff, reduceCtorEq, hc])
    | (with_reducible refine dKont_in ?_; simp only [go_sem, reduceIte, Nat.reduceLT, Nat.reduceEqDiff, Nat.reduceAdd, Nat.reduceMul, Nat.reduceSub, Nat.reduceLeDiff, reduceCtorEq, hc])
    | (with_reducible refine aw_drw (by kernel_rfl) kOk_nil kDet_nil ?_; simp only [go_sem, reduceIte, Nat.reduceLT, Nat.reduceEqDiff, Nat.reduceAdd, Nat.reduceMul, Nat.reduceSub, Nat.reduceLeDiff, reduceCtorEq, hc])
    | (with_reducible refine aw_reg kOk_nil ?_; simp only [go_sem, reduceIte, Nat.reduceLT, Nat.reduceEqDiff, Nat.reduceAdd, Nat.reduceMul, Nat.reduceSub, Nat.reduceLeDiff, reduceCtorEq, hc])
    | (with_reducible refine aw_if ?_; simp only [go_sem, reduceIte, Nat.reduceLT, Nat.reduceEqDiff, Nat.reduceAdd, Nat.reduceMul, Nat.reduceSub, Nat.reduceLeDiff, reduceCtorEq, hc])
    | (with_reducible refine aw_block ?_)
    | (with_reducible refine aw_ret ?_; (try simp only [thenQ, blockQ]); refine aw_ret' ?_; simp only [go_sem, reduceIte, Nat.reduceLT, Nat.reduceEqDiff, Nat.reduceAdd, Nat.reduceMul, Nat.reduceSub, Nat.reduceLeDiff, reduceCtorEq, hc])
    | (with_reducible refine aw_exit ?_; simp only [thenQ, blockQ, reduceIte, Nat.reduceEqDiff])
    | (with_reducible refine aw_skip ?_; simp only [thenQ, blockQ])
    | (with_reducible refine gate_intro (fun h => ?_) (fun h => ?_) <;> simp only [h, go_sem, reduceIte, Nat.reduceLT, Nat.reduceEqDiff, Nat.reduceAdd, Nat.reduceMul, Nat.reduceSub, Nat.reduceLeDiff, reduceCtorEq, hc] <;> (try simp only [decide_eq_true_eq, decide_eq_false_iff_not, Bool.not_true] at h))
    | (with_reducible refine chk_in (by kernel_rfl) ?_)
    | (with_reducible refine And.intro (And.intro (by omega) (by omega)) ?_)
    | (with_reducible refine And.intro (by omega) ?_)
    | (rw [get_in]; rotate_left; omega; simp only [go_sem, reduceIte, Nat.reduceLT, Nat.reduceEqDiff, Nat.reduceAdd, Nat.reduceMul, Nat.reduceSub, Nat.reduceLeDiff, reduceCtorEq, hc])
    | fail)
    rw [decide_eq_true ((list_eq_iff hl).2 fun k x y h1 h2 => hI k x y (by have := (List.getElem?_eq_some_iff.1 h1).1; omega) h1 h2)]
  | some x =>
    have hlt : i < a.length := (List.getElem?_eq_some_iff.1 hx).1
    have hc : decide ((i : Int) < (a.length : Int)) = true := by simp <;> omega
    have hw := wrS (i := i) (by omega)
    obtain ⟨y, hy⟩ : ∃ y, b[i]? = some y := ⟨_, List.getElem?_eq_getElem (by omega)⟩
    have hib : i < b.length := by omega
    repeat' (first
    | (with_reducible refine aw_seq ?_)
    | (with_reducible refine kont_in ?_; simp only [go_sem, reduceIte, Nat.reduceLT, Nat.reduceEqDiff, Nat.reduceAdd, Nat.reduceMul, Nat.reduceSub, Nat.reduceLeDiff, reduceCtorEq, hc, hw, hx, hy, erD_eqc])
    | (with_reducible refine dKont_in ?_; simp only [go_sem, reduceIte, Nat.reduceLT, Nat.reduceEqDiff, Nat.reduceAdd, Nat.reduceMul, Nat.reduceSub, Nat.reduceLeDiff, reduceCtorEq, hc, hw, hx, hy, erD_eqc])
    | (with_reducible refine aw_drw (by kernel_rfl) kOk_nil kDet_nil ?_; simp only [go_sem, reduceIte, Nat.reduceLT, Nat.reduceEqDiff, Nat.reduceAdd, Nat.reduceMul, Nat.reduceSub, Nat.reduceLeDiff, reduceCtorEq, hc, hw, hx, hy, erD_eqc])
    | (with_reducible refine aw_reg kOk_nil ?_; simp only [go_sem, reduceIte, Nat.reduceLT, Nat.reduceEqDiff, Nat.reduceAdd, Nat.reduceMul, Nat.reduceSub, Nat.reduceLeDiff, reduceCtorEq, hc, hw, hx, hy, erD_eqc])
    | (with_reducible refine aw_if ?_; simp only [go_sem, reduceIte, Nat.reduceLT, Nat.reduceEqDiff, Nat.reduceAdd, Nat.reduceMul, Nat.reduceSub, Nat.reduceLeDiff, reduceCtorEq, hc, hw, hx, hy, erD_eqc])
    | (with_reducible refine aw_block ?_)
    | (with_reducible refine aw_ret ?_; (try simp only [thenQ, blockQ]); refine aw_ret' ?_; simp only [go_sem, reduceIte, Nat.reduceLT, Nat.reduceEqDiff, Nat.reduceAdd, Nat.reduceMul, Nat.reduceSub, Nat.reduceLeDiff, reduceCtorEq, hc, hw, hx, hy, erD_eqc])
    | (with_reducible refine aw_exit ?_; simp only [thenQ, blockQ, reduceIte, Nat.reduceEqDiff])
    | (with_reducible refine aw_skip ?_; simp only [thenQ, blockQ])
    | (with_reducible refine gate_intro (fun h => ?_) (fun h => ?_) <;> simp only [h, go_sem, reduceIte, Nat.reduceLT, Nat.reduceEqDiff, Nat.reduceAdd, Nat.reduceMul, Nat.reduceSub, Nat.reduceLeDiff, reduceCtorEq, hc, hw, hx, hy, erD_eqc] <;> (try simp only [decide_eq_true_eq, decide_eq_false_iff_not, Bool.not_true] at h))
    | (with_reducible refine chk_in (by kernel_rfl) ?_)
    | (with_reducible refine And.intro (And.intro (by omega) (by omega)) ?_)
    | (with_reducible refine And.intro (by omega) ?_)
    | (rw [get_in]; rotate_left; omega; simp only [go_sem, reduceIte, Nat.reduceLT, Nat.reduceEqDiff, Nat.reduceAdd, Nat.reduceMul, Nat.reduceSub, Nat.reduceLeDiff, reduceCtorEq, hc, hw, hx, hy, erD_eqc])
    | fail)
    · rw [decide_eq_false (fun he => by rw [(list_eq_iff hl).1 he i x y hx hy] at h; simp at h)]
    · exact ⟨i + 1, weak_in [] (by repeat' (first | trivial | constructor | rfl)) (by repeat' (first | trivial | constructor | rfl)) (by rfl) (by rfl) (by rfl), ⟨hlt, eq_upto hI hx hy (by simpa using h)⟩, by omega⟩
abbrev rsC : Con where
  α := List Rf × List Rf
  kinds := [false, false]
  args := fun a => [.d (.sl 3 (rfR a.1)), .d (.sl 3 (rfR a.2))]
  pre := fun a => a.1.length ≤ 1000000 ∧ a.2.length ≤ 1000000
  post := fun a r => r = ⟨[.d (bl (decide (a.1 = a.2)))], []⟩
  clean := true
theorem rs_ok : CallOk Try.prog 27 rsC := by
  refine ok_of_body' 26 2 Try.func27 rfl (by decide) Try.ntmps27 (by intro a h; exact ⟨rfl, rfl⟩) (by decide) (by rintro _ a r _ rfl; rfl) ?_
  rintro ⟨(a : List Rf), (b : List Rf)⟩ ⟨ha, hb⟩
  simp only [rsC] at ha hb ⊢
  simp only [initE, initMm, List.length_cons, List.length_nil, Nat.reduceAdd]
  by_cases hl : a.length = b.length
  case neg =>
    have hc : ((a.length : Int) != (b.length : Int)) = true := by simp; omega
    repeat' (first
    | (with_reducible refine aw_seq ?_)
    | (with_reducible refine kont_in ?_; simp only [go_sem, reduceIte, Nat.reduceLT, Nat.reduceEqDiff, Nat.reduceAdd, Nat.reduceMul, Nat.reduceSub, Nat.reduceLeDiff, reduceCtorEq, hc])
    | (with_reducible refine dKont_in ?_; simp only [go_sem, reduceIte, Nat.reduceLT, Nat.reduceEqDiff, Nat.reduceAdd, Nat.reduceMul, Nat.reduceSub, Nat.reduceLeDiff, reduceCtorEq, hc])
    | (with_reducible refine aw_drw (by kernel_rfl) kOk_nil kDet_nil ?_; simp only [go_sem, reduceIte, Nat.reduceLT, Nat.reduceEqDiff, Nat.reduceAdd, Nat.reduceMul, Nat.reduceSub, Nat.reduceLeDiff, reduceCtorEq, hc])
    | (with_reducible refine aw_reg kOk_nil ?_; simp only [go_sem, reduceIte, Nat.reduceLT, Nat.reduceEqDiff, Nat.reduceAdd, Nat.reduceMul, Nat.reduceSub, Nat.reduceLeDiff, reduceCtorEq, hc])
    | (with_reducible refine aw_if ?_; simp only [go_sem, reduceIte, Nat.reduceLT, Nat.reduceEqDiff, Nat.reduceAdd, Nat.reduceMul, Nat.reduceSub, Nat.reduceLeDiff, reduceCtorEq, hc])
    | (with_reducible refine aw_block ?_)
    | (with_reducible refine aw_ret ?_; (try simp only [thenQ, blockQ]); refine aw_ret' ?_; simp only [go_sem, reduceIte, Nat.reduceLT, Nat.reduceEqDiff, Nat.reduceAdd, Nat.reduceMul, Nat.reduceSub, Nat.reduceLeDiff, reduceCtorEq, hc])
    | (with_reducible refine aw_exit ?_; simp only [thenQ, blockQ, reduceIte, Nat.reduceEqDiff])
    | (with_reducible refine aw_skip ?_; simp only [thenQ, blockQ])
    | (with_reducible refine gate_intro (fun h => ?_) (fun h => ?_) <;> simp only [h, go_sem, reduceIte, Nat.reduceLT, Nat.reduceEqDiff, Nat.reduceAdd, Nat.reduceMul, Nat.reduceSub, Nat.reduceLeDiff, reduceCtorEq, hc] <;> (try simp only [decide_eq_true_eq, decide_eq_false_iff_not, Bool.not_true] at h))
    | (with_reducible refine chk_in (by kernel_rfl) ?_)
    | (with_reducible refine And.intro (And.intro (by omega) (by omega)) ?_)
    | (with_reducible refine And.intro (by omega) ?_)
    | (rw [get_in]; rotate_left; omega; simp only [go_sem, reduceIte, Nat.reduceLT, Nat.reduceEqDiff, Nat.reduceAdd, Nat.reduceMul, Nat.reduceSub, Nat.reduceLeDiff, reduceCtorEq, hc])
    | fail)
    rw [decide_eq_false (fun h => hl (by rw [h]))]
  have hc : ((b.length : Int) != (b.length : Int)) = false := by simp
  repeat' (first
    | (with_reducible refine aw_seq ?_)
    | (with_reducible refine kont_in ?_; simp only [go_sem, reduceIte, Nat.reduceLT, Nat.reduceEqDiff, Nat.reduceAdd, Nat.reduceMul, Nat.reduceSub, Nat.reduceLeDiff, reduceCtorEq, hc, hl])
    | (with_reducible refine dKont_in ?_; simp only [go_sem, reduceIte, Nat.reduceLT, Nat.reduceEqDiff, Nat.reduceAdd, Nat.reduceMul, Nat.reduceSub, Nat.reduceLeDiff, reduceCtorEq, hc, hl])
    | (with_reducible refine aw_drw (by kernel_rfl) kOk_nil kDet_nil ?_; simp only [go_sem, reduceIte, Nat.reduceLT, Nat.reduceEqDiff, Nat.reduceAdd, Nat.reduceMul, Nat.reduceSub, Nat.reduceLeDiff, reduceCtorEq, hc, hl])
    | (with_reducible refine aw_reg kOk_nil ?_; simp only [go_sem, reduceIte, Nat.reduceLT, Nat.reduceEqDiff, Nat.reduceAdd, Nat.reduceMul, Nat.reduceSub, Nat.reduceLeDiff, reduceCtorEq, hc, hl])
    | (with_reducible refine aw_if ?_; simp only [go_sem, reduceIte, Nat.reduceLT, Nat.reduceEqDiff, Nat.reduceAdd, Nat.reduceMul, Nat.reduceSub, Nat.reduceLeDiff, reduceCtorEq, hc, hl])
    | (with_reducible refine aw_block ?_)
    | (with_reducible refine aw_ret ?_; (try simp only [thenQ, blockQ]); refine aw_ret' ?_; simp only [go_sem, reduceIte, Nat.reduceLT, Nat.reduceEqDiff, Nat.reduceAdd, Nat.reduceMul, Nat.reduceSub, Nat.reduceLeDiff, reduceCtorEq, hc, hl])
    | (with_reducible refine aw_exit ?_; simp only [thenQ, blockQ, reduceIte, Nat.reduceEqDiff])
    | (with_reducible refine aw_skip ?_; simp only [thenQ, blockQ])
    | (with_reducible refine gate_intro (fun h => ?_) (fun h => ?_) <;> simp only [h, go_sem, reduceIte, Nat.reduceLT, Nat.reduceEqDiff, Nat.reduceAdd, Nat.reduceMul, Nat.reduceSub, Nat.reduceLeDiff, reduceCtorEq, hc, hl] <;> (try simp only [decide_eq_true_eq, decide_eq_false_iff_not, Bool.not_true] at h))
    | (with_reducible refine chk_in (by kernel_rfl) ?_)
    | (with_reducible refine And.intro (And.intro (by omega) (by omega)) ?_)
    | (with_reducible refine And.intro (by omega) ?_)
    | (rw [get_in]; rotate_left; omega; simp only [go_sem, reduceIte, Nat.reduceLT, Nat.reduceEqDiff, Nat.reduceAdd, Nat.reduceMul, Nat.reduceSub, Nat.reduceLeDiff, reduceCtorEq, hc, hl])
    | fail)
  refine aw_rounds (α := Nat) (fun i => ⟨envOf [(5, i64 i), (0, .sl 3 (rfR a)), (1, .sl 3 (rfR b))], memOf [], 200⟩)
    (fun i => i ≤ a.length ∧ ∀ k x y, k < i → a[k]? = some x → b[k]? = some y → x = y) (fun i => a.length - i) 0 ⟨Nat.zero_le _, fun k x y h => by omega⟩ (weak_in [] (by repeat' (first | trivial | constructor | rfl)) (by repeat' (first | trivial | constructor | rfl)) (by rfl) (by rfl) (by rfl)) ?_
  rintro i ⟨hi, hI⟩
  cases hx : a[i]? with
  | none =>
    have hge : a.length ≤ i := by simpa using hx
    have hc : decide ((i : Int) < (a.length : Int)) = false := by simp <;> omega
    repeat' (first
    | (with_reducible refine aw_seq ?_)
    | (with_reducible refine kont_in ?_; simp only [go_sem, reduceIte, Nat.reduceLT, Nat.reduceEqDiff, Nat.reduceAdd, Nat.reduceMul, Nat.reduceSub, Nat.reduceLeDiff, reduceCtorEq, hc])
    | (with_reducible refine dKont_in ?_; simp only [go_sem, reduceIte, Nat.reduceLT, Nat.reduceEqDiff, Nat.reduceAdd, Nat.reduceMul, Nat.reduceSub, Nat.reduceLeDiff, reduceCtorEq, hc])
    | (with_reducible refine aw_drw (by kernel_rfl) kOk_nil kDet_nil ?_; simp only [go_sem, reduceIte, Nat.reduceLT, Nat.reduceEqDiff, Nat.reduceAdd, Nat.reduceMul, Nat.reduceSub, Nat.reduceLeDiff, reduceCtorEq, hc])
    | (with_reducible refine aw_reg kOk_nil ?_; simp only [go_sem, reduceIte, Nat.reduceLT, Nat.reduceEqDiff, Nat.reduceAdd, Nat.reduceMul, Nat.reduceSub, Nat.reduceLeDiff, reduceCtorEq, hc])
    | (with_reducible refine aw_if ?_; simp only [go_sem, reduceIte, Nat.reduceLT, Nat.reduceEqDiff, Nat.reduceAdd, Nat.reduceMul, Nat.reduceSub, Nat.reduceLeDiff, reduceCtorEq, hc])
    | (with_reducible refine aw_block ?_)
    | (with_reducible refine aw_ret ?_; (try simp only [thenQ, blockQ]); refine aw_ret' ?_; simp only [go_sem, reduceIte, Nat.reduceLT, Nat.reduceEqDiff, Nat.reduceAdd, Nat.reduceMul, Nat.reduceSub, Nat.reduceLeDiff, reduceCtorEq, hc])
    | (with_reducible refine aw_exit ?_; simp only [thenQ, blockQ, reduceIte, Nat.reduceEqDiff])
    | (with_reducible refine aw_skip ?_; simp only [thenQ, blockQ])
    | (with_reducible refine gate_intro (fun h => ?_) (fun h => ?_) <;> simp only [h, go_sem, reduceIte, Nat.reduceLT, Nat.reduceEqDiff, Nat.reduceAdd, Nat.reduceMul, Nat.reduceSub, Nat.reduceLeDiff, reduceCtorEq, hc] <;> (try simp only [decide_eq_true_eq, decide_eq_false_iff_not, Bool.not_true] at h))
    | (with_reducible refine chk_in (by kernel_rfl) ?_)
    | (with_reducible refine And.intro (And.intro (by omega) (by omega)) ?_)
    | (with_reducible refine And.intro (by omega) ?_)
    | (rw [get_in]; rotate_left; omega; simp only [go_sem, reduceIte, Nat.reduceLT, Nat.reduceEqDiff, Nat.reduceAdd, Nat.reduceMul, Nat.reduceSub, Nat.reduceLeDiff, reduceCtorEq, hc])
    | fail)
    rw [decide_eq_true ((list_eq_iff hl).2 fun k x y h1 h2 => hI k x y (by have := (List.getElem?_eq_some_iff.1 h1).1; omega) h1 h2)]
  | some x =>
    have hlt : i < a.length := (List.getElem?_eq_some_iff.1 hx).1
    have hc : decide ((i : Int) < (a.length : Int)) = true := by simp <;> omega
    have hw := wrS (i := i) (by omega)
    obtain ⟨y, hy⟩ : ∃ y, b[i]? = some y := ⟨_, List.getElem?_eq_getElem (by omega)⟩
    have hib : i < b.length := by omega
    repeat' (first
    | (with_reducible refine aw_seq ?_)
    | (with_reducible refine kont_in ?_; simp only [go_sem, reduceIte, Nat.reduceLT, Nat.reduceEqDiff, Nat.reduceAdd, Nat.reduceMul, Nat.reduceSub, Nat.reduceLeDiff, reduceCtorEq, hc, hw, hx, hy, rfD_eqc])
    | (with_reducible refine dKont_in ?_; simp only [go_sem, reduceIte, Nat.reduceLT, Nat.reduceEqDiff, Nat.reduceAdd, Nat.reduceMul, Nat.reduceSub, Nat.reduceLeDiff, reduceCtorEq, hc, hw, hx, hy, rfD_eqc])
    | (with_reducible refine aw_drw (by kernel_rfl) kOk_nil kDet_nil ?_; simp only [go_sem, reduceIte, Nat.reduceLT, Nat.reduceEqDiff, Nat.reduceAdd, Nat.reduceMul, Nat.reduceSub, Nat.reduceLeDiff, reduceCtorEq, hc, hw, hx, hy, rfD_eqc])
    | (with_reducible refine aw_reg kOk_nil ?_; simp only [go_sem, reduceIte, Nat.reduceLT, Nat.reduceEqDiff, Nat.reduceAdd, Nat.reduceMul, Nat.reduceSub, Nat.reduceLeDiff, reduceCtorEq, hc, hw, hx, hy, rfD_eqc])
    | (with_reducible refine aw_if ?_; simp only [go_sem, reduceIte, Nat.reduceLT, Nat.reduceEqDiff, Nat.reduceAdd, Nat.reduceMul, Nat.reduceSub, Nat.reduceLeDiff, reduceCtorEq, hc, hw, hx, hy, rfD_eqc])
    | (with_reducible refine aw_block ?_)
    | (with_reducible refine aw_ret ?_; (try simp only [thenQ, blockQ]); refine aw_ret' ?_; simp only [go_sem, reduceIte, Nat.reduceLT, Nat.reduceEqDiff, Nat.reduceAdd, Nat.reduceMul, Nat.reduceSub, Nat.reduceLeDiff, reduceCtorEq, hc, hw, hx, hy, rfD_eqc])
    | (with_reducible refine aw_exit ?_; simp only [thenQ, blockQ, reduceIte, Nat.reduceEqDiff])
    | (with_reducible refine aw_skip ?_; simp only [thenQ, blockQ])
    | (with_reducible refine gate_intro (fun h => ?_) (fun h => ?_) <;> simp only [h, go_sem, reduceIte, Nat.reduceLT, Nat.reduceEqDiff, Nat.reduceAdd, Nat.reduceMul, Nat.reduceSub, Nat.reduceLeDiff, reduceCtorEq, hc, hw, hx, hy, rfD_eqc] <;> (try simp only [decide_eq_true_eq, decide_eq_false_iff_not, Bool.not_true] at h))
    | (with_reducible refine chk_in (by kernel_rfl) ?_)
    | (with_reducible refine And.intro (And.intro (by omega) (by omega)) ?_)
    | (with_reducible refine And.intro (by omega) ?_)
    | (rw [get_in]; rotate_left; omega; simp only [go_sem, reduceIte, Nat.reduceLT, Nat.reduceEqDiff, Nat.reduceAdd, Nat.reduceMul, Nat.reduceSub, Nat.reduceLeDiff, reduceCtorEq, hc, hw, hx, hy, rfD_eqc])
    | fail)
    · rw [decide_eq_false (fun he => by rw [(list_eq_iff hl).1 he i x y hx hy] at h; simp at h)]
    · exact ⟨i + 1, weak_in [] (by repeat' (first | trivial | constructor | rfl)) (by repeat' (first | trivial | constructor | rfl)) (by rfl) (by rfl) (by rfl), ⟨hlt, eq_upto hI hx hy (by simpa using h)⟩, by omega⟩
def finE (l : List Er) (c p : Int) : Option Er := l[fndE l c p]?
abbrev fiC : Con where
  α := List Er × Int × Int
  kinds := [false, false, false]
  args := fun a => [.d (.sl 4 (erR a.1)), .d (i64 a.2.1), .d (i64 a.2.2)]
  pre := fun a => a.1.length ≤ 1000000
  post := fun a r => r = ⟨[.d (.agg (erD ((finE a.1 a.2.1 a.2.2).getD ((0, 0, 0), false)))), .d (bl (finE a.1 a.2.1 a.2.2).isSome)], []⟩
  clean := true
theorem fi_ok : CallOk Try.prog 30 fiC := by
  refine ok_of_body' 31 3 Try.func30 rfl (by decide) Try.ntmps30 (by intro a h; exact ⟨rfl, rfl⟩) (by decide) (by rintro _ a r _ rfl; rfl) ?_
  rintro ⟨(l : List Er), c, p⟩ hl
  simp only [fiC] at hl ⊢
  simp only [initE, initMm, List.length_cons, List.length_nil, Nat.reduceAdd]
  repeat' (first
    | (with_reducible refine aw_seq ?_)
    | (with_reducible refine kont_in ?_; simp only [go_sem, reduceIte, Nat.reduceLT, Nat.reduceEqDiff, Nat.reduceAdd, Nat.reduceMul, Nat.reduceSub, Nat.reduceLeDiff, reduceCtorEq])
    | (with_reducible refine dKont_in ?_; simp only [go_sem, reduceIte, Nat.reduceLT, Nat.reduceEqDiff, Nat.reduceAdd, Nat.reduceMul, Nat.reduceSub, Nat.reduceLeDiff, reduceCtorEq])
    | (with_reducible refine aw_drw (by kernel_rfl) kOk_nil kDet_nil ?_; simp only [go_sem, reduceIte, Nat.reduceLT, Nat.reduceEqDiff, Nat.reduceAdd, Nat.reduceMul, Nat.reduceSub, Nat.reduceLeDiff, reduceCtorEq])
    | (with_reducible refine aw_reg kOk_nil ?_; simp only [go_sem, reduceIte, Nat.reduceLT, Nat.reduceEqDiff, Nat.reduceAdd, Nat.reduceMul, Nat.reduceSub, Nat.reduceLeDiff, reduceCtorEq])
    | (with_reducible refine aw_if ?_; simp only [go_sem, reduceIte, Nat.reduceLT, Nat.reduceEqDiff, Nat.reduceAdd, Nat.reduceMul, Nat.reduceSub, Nat.reduceLeDiff, reduceCtorEq])
    | (with_reducible refine aw_block ?_)
    | (with_reducible refine aw_ret ?_; (try simp only [thenQ, blockQ]); refine aw_ret' ?_; simp only [go_sem, reduceIte, Nat.reduceLT, Nat.reduceEqDiff, Nat.reduceAdd, Nat.reduceMul, Nat.reduceSub, Nat.reduceLeDiff, reduceCtorEq])
    | (with_reducible refine aw_exit ?_; simp only [thenQ, blockQ, reduceIte, Nat.reduceEqDiff])
    | (with_reducible refine aw_skip ?_; simp only [thenQ, blockQ])
    | (with_reducible refine gate_intro (fun h => ?_) (fun h => ?_) <;> simp only [h, go_sem, reduceIte, Nat.reduceLT, Nat.reduceEqDiff, Nat.reduceAdd, Nat.reduceMul, Nat.reduceSub, Nat.reduceLeDiff, reduceCtorEq] <;> (try simp only [decide_eq_true_eq, decide_eq_false_iff_not, Bool.not_true] at h))
    | (with_reducible refine chk_in (by kernel_rfl) ?_)
    | (with_reducible refine And.intro (And.intro (by omega) (by omega)) ?_)
    | (with_reducible refine And.intro (by omega) ?_)
    | (rw [get_in]; rotate_left; omega; simp only [go_sem, reduceIte, Nat.reduceLT, Nat.reduceEqDiff, Nat.reduceAdd, Nat.reduceMul, Nat.reduceSub, Nat.reduceLeDiff, reduceCtorEq])
    | fail)
  refine aw_rounds (α := Nat) (fun i => ⟨envOf [(12, i64 i), (11, i64 l.length), (10, .sl 4 (erR l)), (1, i64 c), (2, i64 p), (6, .box 100 0)], memOf [(100, .cells [i64 0, i64 0, i64 0, bl false])], 200⟩)
    (fun i => i ≤ l.length ∧ ∀ k e, k < i → l[k]? = some e → ¬ (e.1.1 = c ∧ e.1.2.2 = p)) (fun i => l.length - i) 0 ⟨Nat.zero_le _, fun k e h => by omega⟩ (weak_in [(100, _)] (by repeat' (first | trivial | constructor | rfl)) (by repeat' (first | trivial | constructor | rfl)) (by rfl) (by rfl) (by rfl)) ?_
  rintro i ⟨hi, hI⟩
  cases hx : l[i]? with
  | none =>
    have hge : l.length ≤ i := by simpa using hx
    have hc : decide ((i : Int) < (l.length : Int)) = false := by simp <;> omega
    have : i = l.length := by omega
    subst this
    repeat' (first
    | (with_reducible refine aw_seq ?_)
    | (with_reducible refine kont_in ?_; simp only [go_sem, reduceIte, Nat.reduceLT, Nat.reduceEqDiff, Nat.reduceAdd, Nat.reduceMul, Nat.reduceSub, Nat.reduceLeDiff, reduceCtorEq, hc])
    | (with_reducible refine dKont_in ?_; simp only [go_sem, reduceIte, Nat.reduceLT, Nat.reduceEqDiff, Nat.reduceAdd, Nat.reduceMul, Nat.reduceSub, Nat.reduceLeDiff, reduceCtorEq, hc])
    | (with_reducible refine aw_drw (by kernel_rfl) kOk_nil kDet_nil ?_; simp only [go_sem, reduceIte, Nat.reduceLT, Nat.reduceEqDiff, Nat.reduceAdd, Nat.reduceMul, Nat.reduceSub, Nat.reduceLeDiff, reduceCtorEq, hc])
    | (with_reducible refine aw_reg kOk_nil ?_; simp only [go_sem, reduceIte, Nat.reduceLT, Nat.reduceEqDiff, Nat.reduceAdd, Nat.reduceMul, Nat.reduceSub, Nat.reduceLeDiff, reduceCtorEq, hc])
    | (with_reducible refine aw_if ?_; simp only [go_sem, reduceIte, Nat.reduceLT, Nat.reduceEqDiff, Nat.reduceAdd, Nat.reduceMul, Nat.reduceSub, Nat.reduceLeDiff, reduceCtorEq, hc])
    | (with_reducible refine aw_block ?_)
    | (with_reducible refine aw_ret ?_; (try simp only [thenQ, blockQ]); refine aw_ret' ?_; simp only [go_sem, reduceIte, Nat.reduceLT, Nat.reduceEqDiff, Nat.reduceAdd, Nat.reduceMul, Nat.reduceSub, Nat.reduceLeDiff, reduceCtorEq, hc])
    | (with_reducible refine aw_exit ?_; simp only [thenQ, blockQ, reduceIte, Nat.reduceEqDiff])
    | (with_reducible refine aw_skip ?_; simp only [thenQ, blockQ])
    | (with_reducible refine gate_intro (fun h => ?_) (fun h => ?_) <;> simp only [h, go_sem, reduceIte, Nat.reduceLT, Nat.reduceEqDiff, Nat.reduceAdd, Nat.reduceMul, Nat.reduceSub, Nat.reduceLeDiff, reduceCtorEq, hc] <;> (try simp only [decide_eq_true_eq, decide_eq_false_iff_not, Bool.not_true] at h))
    | (with_reducible refine chk_in (by kernel_rfl) ?_)
    | (with_reducible refine And.intro (And.intro (by omega) (by omega)) ?_)
    | (with_reducible refine And.intro (by omega) ?_)
    | (rw [get_in]; rotate_left; omega; simp only [go_sem, reduceIte, Nat.reduceLT, Nat.reduceEqDiff, Nat.reduceAdd, Nat.reduceMul, Nat.reduceSub, Nat.reduceLeDiff, reduceCtorEq, hc])
    | fail)
    have : finE l c p = none := by rw [finE, fndE_is hi hI (fun e he => by rw [hx] at he; cases he)]; exact hx
    rw [this]; rfl
  | some x =>
    have hlt : i < l.length := (List.getElem?_eq_some_iff.1 hx).1
    have hc : decide ((i : Int) < (l.length : Int)) = true := by simp <;> omega
    have hw := wrS (i := i) (by omega)
    obtain ⟨⟨x1, x2, x3⟩, x4⟩ := x
    repeat' (first
    | (with_reducible refine aw_seq ?_)
    | (with_reducible refine kont_in ?_; simp only [go_sem, reduceIte, Nat.reduceLT, Nat.reduceEqDiff, Nat.reduceAdd, Nat.reduceMul, Nat.reduceSub, Nat.reduceLeDiff, reduceCtorEq, hc, hw, hx, erD])
    | (with_reducible refine dKont_in ?_; simp only [go_sem, reduceIte, Nat.reduceLT, Nat.reduceEqDiff, Nat.reduceAdd, Nat.reduceMul, Nat.reduceSub, Nat.reduceLeDiff, reduceCtorEq, hc, hw, hx, erD])
    | (with_reducible refine aw_drw (by kernel_rfl) kOk_nil kDet_nil ?_; simp only [go_sem, reduceIte, Nat.reduceLT, Nat.reduceEqDiff, Nat.reduceAdd, Nat.reduceMul, Nat.reduceSub, Nat.reduceLeDiff, reduceCtorEq, hc, hw, hx, erD])
    | (with_reducible refine aw_reg kOk_nil ?_; simp only [go_sem, reduceIte, Nat.reduceLT, Nat.reduceEqDiff, Nat.reduceAdd, Nat.reduceMul, Nat.reduceSub, Nat.reduceLeDiff, reduceCtorEq, hc, hw, hx, erD])
    | (with_reducible refine aw_if ?_; simp only [go_sem, reduceIte, Nat.reduceLT, Nat.reduceEqDiff, Nat.reduceAdd, Nat.reduceMul, Nat.reduceSub, Nat.reduceLeDiff, reduceCtorEq, hc, hw, hx, erD])
    | (with_reducible refine aw_block ?_)
    | (with_reducible refine aw_ret ?_; (try simp only [thenQ, blockQ]); refine aw_ret' ?_; simp only [go_sem, reduceIte, Nat.reduceLT, Nat.reduceEqDiff, Nat.reduceAdd, Nat.reduceMul, Nat.reduceSub, Nat.reduceLeDiff, reduceCtorEq, hc, hw, hx, erD])
    | (with_reducible refine aw_exit ?_; simp only [thenQ, blockQ, reduceIte, Nat.reduceEqDiff])
    | (with_reducible refine aw_skip ?_; simp only [thenQ, blockQ])
    | (with_reducible refine gate_intro (fun h => ?_) (fun h => ?_) <;> simp only [h, go_sem, reduceIte, Nat.reduceLT, Nat.reduceEqDiff, Nat.reduceAdd, Nat.reduceMul, Nat.reduceSub, Nat.reduceLeDiff, reduceCtorEq, hc, hw, hx, erD] <;> (try simp only [decide_eq_true_eq, decide_eq_false_iff_not, Bool.not_true] at h))
    | (with_reducible refine chk_in (by kernel_rfl) ?_)
    | (with_reducible refine And.intro (And.intro (by omega) (by omega)) ?_)
    | (with_reducible refine And.intro (by omega) ?_)
    | (rw [get_in]; rotate_left; omega; simp only [go_sem, reduceIte, Nat.reduceLT, Nat.reduceEqDiff, Nat.reduceAdd, Nat.reduceMul, Nat.reduceSub, Nat.reduceLeDiff, reduceCtorEq, hc, hw, hx, erD])
    | fail)
    · rename_i h1
      have : finE l c p = some ((x1, x2, x3), x4) := by rw [finE, fndE_is hi hI (fun e he => by rw [hx] at he; cases he; exact ⟨by simpa using h1, by simpa using h⟩)]; exact hx
      rw [this]; rfl
    · exact ⟨i + 1, weak_in [(100, 100)] (by repeat' (first | trivial | constructor | rfl)) (by repeat' (first | trivial | constructor | rfl)) (by rfl) (by rfl) (by rfl), ⟨hlt, all_next (P := fun e => ¬ (e.1.1 = c ∧ e.1.2.2 = p)) hI hx (fun hh => by simp at h; exact h hh.2)⟩, by omega⟩
    · exact ⟨i + 1, weak_in [(100, 100)] (by repeat' (first | trivial | constructor | rfl)) (by repeat' (first | trivial | constructor | rfl)) (by rfl) (by rfl) (by rfl), ⟨hlt, all_next (P := fun e => ¬ (e.1.1 = c ∧ e.1.2.2 = p)) hI hx (fun hh => by simp at h; exact h hh.1)⟩, by omega⟩
theorem fndE_le (l : List Er) (c p : Int) : fndE l c p ≤ l.length := List.findIdx_le_length
theorem rfi_ok : CallOk Try.prog 32 fiC := by
  refine ok_of_body' 20 3 Try.func32 rfl (by decide) Try.ntmps32 (by intro a h; exact ⟨rfl, rfl⟩) (by decide) (by rintro _ a r _ rfl; rfl) ?_
  rintro ⟨(l : List Er), c, p⟩ hl
  simp only [fiC] at hl ⊢
  simp only [initE, initMm, List.length_cons, List.length_nil, Nat.reduceAdd]
  have s1 : ixC.srt = none := rfl
  have c1 : ixC.clean = true := rfl
  have hK : KOk Try.prog (kOf [(53, ixC)]) := kOk_cons ix_ok kOk_nil
  have hD : KDet (kOf [(53, ixC)]) := kDet_cons (fun _ _ => ⟨_, rfl, by simp, fun _ h => h⟩) kDet_nil
  have hle := fndE_le l c p
  by_cases hlt : fndE l c p < l.length
  · have hix : ixE l c p = fndE l c p := by rw [ixE, if_pos hlt]
    obtain ⟨e, hx⟩ : ∃ e, l[fndE l c p]? = some e := ⟨_, List.getElem?_eq_getElem hlt⟩
    have q1 : decide ((fndE l c p : Int) < 0) = false := by simp
    have hfi : finE l c p = some e := hx
    rw [hfi]
    generalize fndE l c p = q at *
    repeat' (first
    | (with_reducible refine aw_seq ?_)
    | (with_reducible refine kont_in ?_; simp only [go_sem, reduceIte, Nat.reduceLT, Nat.reduceEqDiff, Nat.reduceAdd, Nat.reduceMul, Nat.reduceSub, Nat.reduceLeDiff, reduceCtorEq, s1, c1, hix, q1, hx])
    | (with_reducible refine dKont_in ?_; simp only [go_sem, reduceIte, Nat.reduceLT, Nat.reduceEqDiff, Nat.reduceAdd, Nat.reduceMul, Nat.reduceSub, Nat.reduceLeDiff, reduceCtorEq, s1, c1, hix, q1, hx])
    | (with_reducible refine aw_drw (by kernel_rfl) hK hD ?_; simp only [go_sem, reduceIte, Nat.reduceLT, Nat.reduceEqDiff, Nat.reduceAdd, Nat.reduceMul, Nat.reduceSub, Nat.reduceLeDiff, reduceCtorEq, s1, c1, hix, q1, hx])
    | (with_reducible refine aw_reg hK ?_; simp only [go_sem, reduceIte, Nat.reduceLT, Nat.reduceEqDiff, Nat.reduceAdd, Nat.reduceMul, Nat.reduceSub, Nat.reduceLeDiff, reduceCtorEq, s1, c1, hix, q1, hx])
    | (with_reducible refine aw_if ?_; simp only [go_sem, reduceIte, Nat.reduceLT, Nat.reduceEqDiff, Nat.reduceAdd, Nat.reduceMul, Nat.reduceSub, Nat.reduceLeDiff, reduceCtorEq, s1, c1, hix, q1, hx])
    | (with_reducible refine aw_block ?_)
    | (with_reducible refine aw_ret ?_; (try simp only [thenQ, blockQ]); refine aw_ret' ?_; simp only [go_sem, reduceIte, Nat.reduceLT, Nat.reduceEqDiff, Nat.reduceAdd, Nat.reduceMul, Nat.reduceSub, Nat.reduceLeDiff, reduceCtorEq, s1, c1, hix, q1, hx])
    | (with_reducible refine aw_exit ?_; simp only [thenQ, blockQ, reduceIte, Nat.reduceEqDiff])
    | (with_reducible refine aw_skip ?_; simp only [thenQ, blockQ])
    | (with_reducible refine gate_intro (fun h => ?_) (fun h => ?_) <;> simp only [h, go_sem, reduceIte, Nat.reduceLT, Nat.reduceEqDiff, Nat.reduceAdd, Nat.reduceMul, Nat.reduceSub, Nat.reduceLeDiff, reduceCtorEq, s1, c1, hix, q1, hx] <;> (try simp only [decide_eq_true_eq, decide_eq_false_iff_not, Bool.not_true] at h))
    | (with_reducible refine chk_in (by kernel_rfl) ?_)
    | (with_reducible refine And.intro (And.intro (by omega) (by omega)) ?_)
    | (with_reducible refine And.intro (by omega) ?_)
    | (refine ix_call rfl l c p hl rfl ?_)
    | (rw [get_in]; rotate_left; omega; simp only [go_sem, reduceIte, Nat.reduceLT, Nat.reduceEqDiff, Nat.reduceAdd, Nat.reduceMul, Nat.reduceSub, Nat.reduceLeDiff, reduceCtorEq, s1, c1, hix, q1, hx])
    | fail)
    rfl
  · have hix : ixE l c p = -1 := by rw [ixE, if_neg hlt]
    have hfi : finE l c p = none := List.getElem?_eq_none (by omega)
    rw [hfi]
    have q1 : decide ((-1 : Int) < 0) = true := rfl
    repeat' (first
    | (with_reducible refine aw_seq ?_)
    | (with_reducible refine kont_in ?_; simp only [go_sem, reduceIte, Nat.reduceLT, Nat.reduceEqDiff, Nat.reduceAdd, Nat.reduceMul, Nat.reduceSub, Nat.reduceLeDiff, reduceCtorEq, s1, c1, hix, q1])
    | (with_reducible refine dKont_in ?_; simp only [go_sem, reduceIte, Nat.reduceLT, Nat.reduceEqDiff, Nat.reduceAdd, Nat.reduceMul, Nat.reduceSub, Nat.reduceLeDiff, reduceCtorEq, s1, c1, hix, q1])
    | (with_reducible refine aw_drw (by kernel_rfl) hK hD ?_; simp only [go_sem, reduceIte, Nat.reduceLT, Nat.reduceEqDiff, Nat.reduceAdd, Nat.reduceMul, Nat.reduceSub, Nat.reduceLeDiff, reduceCtorEq, s1, c1, hix, q1])
    | (with_reducible refine aw_reg hK ?_; simp only [go_sem, reduceIte, Nat.reduceLT, Nat.reduceEqDiff, Nat.reduceAdd, Nat.reduceMul, Nat.reduceSub, Nat.reduceLeDiff, reduceCtorEq, s1, c1, hix, q1])
    | (with_reducible refine aw_if ?_; simp only [go_sem, reduceIte, Nat.reduceLT, Nat.reduceEqDiff, Nat.reduceAdd, Nat.reduceMul, Nat.reduceSub, Nat.reduceLeDiff, reduceCtorEq, s1, c1, hix, q1])
    | (with_reducible refine aw_block ?_)
    | (with_reducible refine aw_ret ?_; (try simp only [thenQ, blockQ]); refine aw_ret' ?_; simp only [go_sem, reduceIte, Nat.reduceLT, Nat.reduceEqDiff, Nat.reduceAdd, Nat.reduceMul, Nat.reduceSub, Nat.reduceLeDiff, reduceCtorEq, s1, c1, hix, q1])
    | (with_reducible refine aw_exit ?_; simp only [thenQ, blockQ, reduceIte, Nat.reduceEqDiff])
    | (with_reducible refine aw_skip ?_; simp only [thenQ, blockQ])
    | (with_reducible refine gate_intro (fun h => ?_) (fun h => ?_) <;> simp only [h, go_sem, reduceIte, Nat.reduceLT, Nat.reduceEqDiff, Nat.reduceAdd, Nat.reduceMul, Nat.reduceSub, Nat.reduceLeDiff, reduceCtorEq, s1, c1, hix, q1] <;> (try simp only [decide_eq_true_eq, decide_eq_false_iff_not, Bool.not_true] at h))
    | (with_reducible refine chk_in (by kernel_rfl) ?_)
    | (with_reducible refine And.intro (And.intro (by omega) (by omega)) ?_)
    | (with_reducible refine And.intro (by omega) ?_)
    | (refine ix_call rfl l c p hl rfl ?_)
    | (rw [get_in]; rotate_left; omega; simp only [go_sem, reduceIte, Nat.reduceLT, Nat.reduceEqDiff, Nat.reduceAdd, Nat.reduceMul, Nat.reduceSub, Nat.reduceLeDiff, reduceCtorEq, s1, c1, hix, q1])
    | fail)
    all_goals rfl
abbrev papC : Con where
  α := List Er × Int
  kinds := [false, false]
  args := fun a => [.d (.sl 4 (erR a.1)), .d (i64 a.2)]
  pre := fun a => a.1.length ≤ 1000000
  post := fun a r => r = ⟨[.own 4 (erR (a.1.filter fun e => e.1.2.2 == a.2))], []⟩
  clean := true
theorem pap_ok : CallOk Try.prog 33 papC := by
  refine ok_of_body_own 25 2 Try.func33 rfl (by decide) Try.ntmps33 (by intro a h; exact ⟨rfl, rfl⟩) (by decide) (by rintro _ a r _ rfl; simpa [plainRD, plainD, plainC] using erR_plain _) ?_
  rintro ⟨(l : List Er), p⟩ hl
  simp only [papC] at hl ⊢
  simp only [initE, initMm, List.length_cons, List.length_nil, Nat.reduceAdd]
  repeat' (first
    | (with_reducible refine aw_seq ?_)
    | (with_reducible refine kont_in ?_; simp only [go_sem, reduceIte, Nat.reduceLT, Nat.reduceEqDiff, Nat.reduceAdd, Nat.reduceMul, Nat.reduceSub, Nat.reduceLeDiff, reduceCtorEq])
    | (with_reducible refine dKont_in ?_; simp only [go_sem, reduceIte, Nat.reduceLT, Nat.reduceEqDiff, Nat.reduceAdd, Nat.reduceMul, Nat.reduceSub, Nat.reduceLeDiff, reduceCtorEq])
    | (with_reducible refine aw_drw (by kernel_rfl) kOk_nil kDet_nil ?_; simp only [go_sem, reduceIte, Nat.reduceLT, Nat.reduceEqDiff, Nat.reduceAdd, Nat.reduceMul, Nat.reduceSub, Nat.reduceLeDiff, reduceCtorEq])
    | (with_reducible refine aw_reg kOk_nil ?_; simp only [go_sem, reduceIte, Nat.reduceLT, Nat.reduceEqDiff, Nat.reduceAdd, Nat.reduceMul, Nat.reduceSub, Nat.reduceLeDiff, reduceCtorEq])
    | (with_reducible refine aw_if ?_; simp only [go_sem, reduceIte, Nat.reduceLT, Nat.reduceEqDiff, Nat.reduceAdd, Nat.reduceMul, Nat.reduceSub, Nat.reduceLeDiff, reduceCtorEq])
    | (with_reducible refine aw_block ?_)
    | (with_reducible refine aw_ret ?_; (try simp only [thenQ, blockQ]); refine aw_ret' ?_; simp only [go_sem, reduceIte, Nat.reduceLT, Nat.reduceEqDiff, Nat.reduceAdd, Nat.reduceMul, Nat.reduceSub, Nat.reduceLeDiff, reduceCtorEq])
    | (with_reducible refine aw_exit ?_; simp only [thenQ, blockQ, reduceIte, Nat.reduceEqDiff])
    | (with_reducible refine aw_skip ?_; simp only [thenQ, blockQ])
    | (with_reducible refine gate_intro (fun h => ?_) (fun h => ?_) <;> simp only [h, go_sem, reduceIte, Nat.reduceLT, Nat.reduceEqDiff, Nat.reduceAdd, Nat.reduceMul, Nat.reduceSub, Nat.reduceLeDiff, reduceCtorEq] <;> (try simp only [decide_eq_true_eq, decide_eq_false_iff_not, Bool.not_true] at h))
    | (with_reducible refine chk_in (by kernel_rfl) ?_)
    | (with_reducible refine And.intro (And.intro (by omega) (by omega)) ?_)
    | (with_reducible refine And.intro (by omega) ?_)
    | (rw [get_in]; rotate_left; omega; simp only [go_sem, reduceIte, Nat.reduceLT, Nat.reduceEqDiff, Nat.reduceAdd, Nat.reduceMul, Nat.reduceSub, Nat.reduceLeDiff, reduceCtorEq])
    | fail)
  refine aw_nil 5 400 4 rfl rfl ?_
  refine aw_rounds (α := Nat) (fun i => ⟨envOf [(10, i64 i), (9, i64 l.length), (8, .sl 4 (erR l)), (1, i64 p), (5, .row 100)], memOf [(100, .row 4 (erR ((l.take i).filter fun e => e.1.2.2 == p)) true)], 200⟩)
    (fun i => i ≤ l.length) (fun i => l.length - i) 0 (Nat.zero_le _) (weak_in [(100, 400)] (by repeat' (first | trivial | constructor | rfl)) (by repeat' (first | trivial | constructor | rfl)) (by rfl) (by rfl) (by rfl)) ?_
  intro i hi
  have hfl : ((l.take i).filter fun e => e.1.2.2 == p).length ≤ i := Nat.le_trans (List.length_filter_le _ _) (by simp; omega)
  cases hx : l[i]? with
  | none =>
    have hge : l.length ≤ i := by simpa using hx
    have hc : decide ((i : Int) < (l.length : Int)) = false := by simp <;> omega
    repeat' (first
    | (with_reducible refine aw_seq ?_)
    | (with_reducible refine kont_in ?_; simp only [go_sem, reduceIte, Nat.reduceLT, Nat.reduceEqDiff, Nat.reduceAdd, Nat.reduceMul, Nat.reduceSub, Nat.reduceLeDiff, reduceCtorEq, hc])
    | (with_reducible refine dKont_in ?_; simp only [go_sem, reduceIte, Nat.reduceLT, Nat.reduceEqDiff, Nat.reduceAdd, Nat.reduceMul, Nat.reduceSub, Nat.reduceLeDiff, reduceCtorEq, hc])
    | (with_reducible refine aw_drw (by kernel_rfl) kOk_nil kDet_nil ?_; simp only [go_sem, reduceIte, Nat.reduceLT, Nat.reduceEqDiff, Nat.reduceAdd, Nat.reduceMul, Nat.reduceSub, Nat.reduceLeDiff, reduceCtorEq, hc])
    | (with_reducible refine aw_reg kOk_nil ?_; simp only [go_sem, reduceIte, Nat.reduceLT, Nat.reduceEqDiff, Nat.reduceAdd, Nat.reduceMul, Nat.reduceSub, Nat.reduceLeDiff, reduceCtorEq, hc])
    | (with_reducible refine aw_if ?_; simp only [go_sem, reduceIte, Nat.reduceLT, Nat.reduceEqDiff, Nat.reduceAdd, Nat.reduceMul, Nat.reduceSub, Nat.reduceLeDiff, reduceCtorEq, hc])
    | (with_reducible refine aw_block ?_)
    | (with_reducible refine aw_ret ?_; (try simp only [thenQ, blockQ]); refine aw_ret' ?_; simp only [go_sem, reduceIte, Nat.reduceLT, Nat.reduceEqDiff, Nat.reduceAdd, Nat.reduceMul, Nat.reduceSub, Nat.reduceLeDiff, reduceCtorEq, hc])
    | (with_reducible refine aw_exit ?_; simp only [thenQ, blockQ, reduceIte, Nat.reduceEqDiff])
    | (with_reducible refine aw_skip ?_; simp only [thenQ, blockQ])
    | (with_reducible refine gate_intro (fun h => ?_) (fun h => ?_) <;> simp only [h, go_sem, reduceIte, Nat.reduceLT, Nat.reduceEqDiff, Nat.reduceAdd, Nat.reduceMul, Nat.reduceSub, Nat.reduceLeDiff, reduceCtorEq, hc] <;> (try simp only [decide_eq_true_eq, decide_eq_false_iff_not, Bool.not_true] at h))
    | (with_reducible refine chk_in (by kernel_rfl) ?_)
    | (with_reducible refine And.intro (And.intro (by omega) (by omega)) ?_)
    | (with_reducible refine And.intro (by omega) ?_)
    | (rw [get_in]; rotate_left; omega; simp only [go_sem, reduceIte, Nat.reduceLT, Nat.reduceEqDiff, Nat.reduceAdd, Nat.reduceMul, Nat.reduceSub, Nat.reduceLeDiff, reduceCtorEq, hc])
    | fail)
    refine ⟨_, rfl, ?_, rfl⟩
    rw [List.take_of_length_le hge]; exact .refl _
  | some x =>
    have hlt : i < l.length := (List.getElem?_eq_some_iff.1 hx).1
    have hc : decide ((i : Int) < (l.length : Int)) = true := by simp <;> omega
    have hw := wrS (i := i) (by omega)
    have ht : l.take (i + 1) = l.take i ++ [x] := by rw [List.take_add_one, hx]; rfl
    cases hp : x.1.2.2 == p with
    | true =>
      have hf : (l.take (i + 1)).filter (fun e => e.1.2.2 == p) = (l.take i).filter (fun e => e.1.2.2 == p) ++ [x] := by rw [ht, List.filter_append, List.filter_cons_of_pos (p := fun e : Er => e.1.2.2 == p) hp, List.filter_nil]
      have hg : (erD x)[2]? = some (i64 x.1.2.2) := rfl
      repeat' (first
    | (with_reducible refine aw_seq ?_)
    | (with_reducible refine kont_in ?_; simp only [go_sem, reduceIte, Nat.reduceLT, Nat.reduceEqDiff, Nat.reduceAdd, Nat.reduceMul, Nat.reduceSub, Nat.reduceLeDiff, reduceCtorEq, hc, hw, hx, hg, hp])
    | (with_reducible refine dKont_in ?_; simp only [go_sem, reduceIte, Nat.reduceLT, Nat.reduceEqDiff, Nat.reduceAdd, Nat.reduceMul, Nat.reduceSub, Nat.reduceLeDiff, reduceCtorEq, hc, hw, hx, hg, hp])
    | (with_reducible refine aw_drw (by kernel_rfl) kOk_nil kDet_nil ?_; simp only [go_sem, reduceIte, Nat.reduceLT, Nat.reduceEqDiff, Nat.reduceAdd, Nat.reduceMul, Nat.reduceSub, Nat.reduceLeDiff, reduceCtorEq, hc, hw, hx, hg, hp])
    | (with_reducible refine aw_reg kOk_nil ?_; simp only [go_sem, reduceIte, Nat.reduceLT, Nat.reduceEqDiff, Nat.reduceAdd, Nat.reduceMul, Nat.reduceSub, Nat.reduceLeDiff, reduceCtorEq, hc, hw, hx, hg, hp])
    | (with_reducible refine aw_if ?_; simp only [go_sem, reduceIte, Nat.reduceLT, Nat.reduceEqDiff, Nat.reduceAdd, Nat.reduceMul, Nat.reduceSub, Nat.reduceLeDiff, reduceCtorEq, hc, hw, hx, hg, hp])
    | (with_reducible refine aw_block ?_)
    | (with_reducible refine aw_ret ?_; (try simp only [thenQ, blockQ]); refine aw_ret' ?_; simp only [go_sem, reduceIte, Nat.reduceLT, Nat.reduceEqDiff, Nat.reduceAdd, Nat.reduceMul, Nat.reduceSub, Nat.reduceLeDiff, reduceCtorEq, hc, hw, hx, hg, hp])
    | (with_reducible refine aw_exit ?_; simp only [thenQ, blockQ, reduceIte, Nat.reduceEqDiff])
    | (with_reducible refine aw_skip ?_; simp only [thenQ, blockQ])
    | (with_reducible refine gate_intro (fun h => ?_) (fun h => ?_) <;> simp only [h, go_sem, reduceIte, Nat.reduceLT, Nat.reduceEqDiff, Nat.reduceAdd, Nat.reduceMul, Nat.reduceSub, Nat.reduceLeDiff, reduceCtorEq, hc, hw, hx, hg, hp] <;> (try simp only [decide_eq_true_eq, decide_eq_false_iff_not, Bool.not_true] at h))
    | (with_reducible refine chk_in (by kernel_rfl) ?_)
    | (with_reducible refine And.intro (And.intro (by omega) (by omega)) ?_)
    | (with_reducible refine And.intro (by omega) ?_)
    | (rw [get_in]; rotate_left; omega; simp only [go_sem, reduceIte, Nat.reduceLT, Nat.reduceEqDiff, Nat.reduceAdd, Nat.reduceMul, Nat.reduceSub, Nat.reduceLeDiff, reduceCtorEq, hc, hw, hx, hg, hp])
    | fail)
      refine ⟨i + 1, ?_, hlt, by omega⟩
      rw [hf]; exact weak_in [(100, _)] (by repeat' (first | trivial | constructor | rfl)) (by repeat' (first | trivial | constructor | rfl)) (by rfl) (by rfl) (by rfl)
    | false =>
      have hf : (l.take (i + 1)).filter (fun e => e.1.2.2 == p) = (l.take i).filter (fun e => e.1.2.2 == p) := by rw [ht, List.filter_append, List.filter_cons_of_neg (by simp [hp]), List.filter_nil, List.append_nil]
      have hg : (erD x)[2]? = some (i64 x.1.2.2) := rfl
      repeat' (first
    | (with_reducible refine aw_seq ?_)
    | (with_reducible refine kont_in ?_; simp only [go_sem, reduceIte, Nat.reduceLT, Nat.reduceEqDiff, Nat.reduceAdd, Nat.reduceMul, Nat.reduceSub, Nat.reduceLeDiff, reduceCtorEq, hc, hw, hx, hg, hp])
    | (with_reducible refine dKont_in ?_; simp only [go_sem, reduceIte, Nat.reduceLT, Nat.reduceEqDiff, Nat.reduceAdd, Nat.reduceMul, Nat.reduceSub, Nat.reduceLeDiff, reduceCtorEq, hc, hw, hx, hg, hp])
    | (with_reducible refine aw_drw (by kernel_rfl) kOk_nil kDet_nil ?_; simp only [go_sem, reduceIte, Nat.reduceLT, Nat.reduceEqDiff, Nat.reduceAdd, Nat.reduceMul, Nat.reduceSub, Nat.reduceLeDiff, reduceCtorEq, hc, hw, hx, hg, hp])
    | (with_reducible refine aw_reg kOk_nil ?_; simp only [go_sem, reduceIte, Nat.reduceLT, Nat.reduceEqDiff, Nat.reduceAdd, Nat.reduceMul, Nat.reduceSub, Nat.reduceLeDiff, reduceCtorEq, hc, hw, hx, hg, hp])
    | (with_reducible refine aw_if ?_; simp only [go_sem, reduceIte, Nat.reduceLT, Nat.reduceEqDiff, Nat.reduceAdd, Nat.reduceMul, Nat.reduceSub, Nat.reduceLeDiff, reduceCtorEq, hc, hw, hx, hg, hp])
    | (with_reducible refine aw_block ?_)
    | (with_reducible refine aw_ret ?_; (try simp only [thenQ, blockQ]); refine aw_ret' ?_; simp only [go_sem, reduceIte, Nat.reduceLT, Nat.reduceEqDiff, Nat.reduceAdd, Nat.reduceMul, Nat.reduceSub, Nat.reduceLeDiff, reduceCtorEq, hc, hw, hx, hg, hp])
    | (with_reducible refine aw_exit ?_; simp only [thenQ, blockQ, reduceIte, Nat.reduceEqDiff])
    | (with_reducible refine aw_skip ?_; simp only [thenQ, blockQ])
    | (with_reducible refine gate_intro (fun h => ?_) (fun h => ?_) <;> simp only [h, go_sem, reduceIte, Nat.reduceLT, Nat.reduceEqDiff, Nat.reduceAdd, Nat.reduceMul, Nat.reduceSub, Nat.reduceLeDiff, reduceCtorEq, hc, hw, hx, hg, hp] <;> (try simp only [decide_eq_true_eq, decide_eq_false_iff_not, Bool.not_true] at h))
    | (with_reducible refine chk_in (by kernel_rfl) ?_)
    | (with_reducible refine And.intro (And.intro (by omega) (by omega)) ?_)
    | (with_reducible refine And.intro (by omega) ?_)
    | (rw [get_in]; rotate_left; omega; simp only [go_sem, reduceIte, Nat.reduceLT, Nat.reduceEqDiff, Nat.reduceAdd, Nat.reduceMul, Nat.reduceSub, Nat.reduceLeDiff, reduceCtorEq, hc, hw, hx, hg, hp])
    | fail)
      refine ⟨i + 1, ?_, hlt, by omega⟩
      rw [hf]; exact weak_in [(100, 100)] (by repeat' (first | trivial | constructor | rfl)) (by repeat' (first | trivial | constructor | rfl)) (by rfl) (by rfl) (by rfl)
theorem rpap_ok : CallOk Try.prog 34 papC := by
  refine ok_of_body_own 29 2 Try.func34 rfl (by decide) Try.ntmps34 (by intro a h; exact ⟨rfl, rfl⟩) (by decide) (by rintro _ a r _ rfl; simpa [plainRD, plainD, plainC] using erR_plain _) ?_
  rintro ⟨(l : List Er), p⟩ hl
  simp only [papC] at hl ⊢
  simp only [initE, initMm, List.length_cons, List.length_nil, Nat.reduceAdd]
  repeat' (first
    | (with_reducible refine aw_seq ?_)
    | (with_reducible refine kont_in ?_; simp only [go_sem, reduceIte, Nat.reduceLT, Nat.reduceEqDiff, Nat.reduceAdd, Nat.reduceMul, Nat.reduceSub, Nat.reduceLeDiff, reduceCtorEq])
    | (with_reducible refine dKont_in ?_; simp only [go_sem, reduceIte, Nat.reduceLT, Nat.reduceEqDiff, Nat.reduceAdd, Nat.reduceMul, Nat.reduceSub, Nat.reduceLeDiff, reduceCtorEq])
    | (with_reducible refine aw_drw (by kernel_rfl) kOk_nil kDet_nil ?_; simp only [go_sem, reduceIte, Nat.reduceLT, Nat.reduceEqDiff, Nat.reduceAdd, Nat.reduceMul, Nat.reduceSub, Nat.reduceLeDiff, reduceCtorEq])
    | (with_reducible refine aw_reg kOk_nil ?_; simp only [go_sem, reduceIte, Nat.reduceLT, Nat.reduceEqDiff, Nat.reduceAdd, Nat.reduceMul, Nat.reduceSub, Nat.reduceLeDiff, reduceCtorEq])
    | (with_reducible refine aw_if ?_; simp only [go_sem, reduceIte, Nat.reduceLT, Nat.reduceEqDiff, Nat.reduceAdd, Nat.reduceMul, Nat.reduceSub, Nat.reduceLeDiff, reduceCtorEq])
    | (with_reducible refine aw_block ?_)
    | (with_reducible refine aw_ret ?_; (try simp only [thenQ, blockQ]); refine aw_ret' ?_; simp only [go_sem, reduceIte, Nat.reduceLT, Nat.reduceEqDiff, Nat.reduceAdd, Nat.reduceMul, Nat.reduceSub, Nat.reduceLeDiff, reduceCtorEq])
    | (with_reducible refine aw_exit ?_; simp only [thenQ, blockQ, reduceIte, Nat.reduceEqDiff])
    | (with_reducible refine aw_skip ?_; simp only [thenQ, blockQ])
    | (with_reducible refine gate_intro (fun h => ?_) (fun h => ?_) <;> simp only [h, go_sem, reduceIte, Nat.reduceLT, Nat.reduceEqDiff, Nat.reduceAdd, Nat.reduceMul, Nat.reduceSub, Nat.reduceLeDiff, reduceCtorEq] <;> (try simp only [decide_eq_true_eq, decide_eq_false_iff_not, Bool.not_true] at h))
    | (with_reducible refine chk_in (by kernel_rfl) ?_)
    | (with_reducible refine And.intro (And.intro (by omega) (by omega)) ?_)
    | (with_reducible refine And.intro (by omega) ?_)
    | (rw [get_in]; rotate_left; omega; simp only [go_sem, reduceIte, Nat.reduceLT, Nat.reduceEqDiff, Nat.reduceAdd, Nat.reduceMul, Nat.reduceSub, Nat.reduceLeDiff, reduceCtorEq])
    | fail)
  refine aw_nil 5 400 4 rfl rfl ?_
  refine aw_rounds (α := Nat) (fun i => ⟨envOf [(6, i64 i), (0, .sl 4 (erR l)), (1, i64 p), (5, .row 100)], memOf [(100, .row 4 (erR ((l.take i).filter fun e => e.1.2.2 == p)) true)], 200⟩)
    (fun i => i ≤ l.length) (fun i => l.length - i) 0 (Nat.zero_le _) (weak_in [(100, 400)] (by repeat' (first | trivial | constructor | rfl)) (by repeat' (first | trivial | constructor | rfl)) (by rfl) (by rfl) (by rfl)) ?_
  intro i hi
  have hfl : ((l.take i).filter fun e => e.1.2.2 == p).length ≤ i := Nat.le_trans (List.length_filter_le _ _) (by simp; omega)
  cases hx : l[i]? with
  | none =>
    have hge : l.length ≤ i := by simpa using hx
    have hc : decide ((i : Int) < (l.length : Int)) = false := by simp <;> omega
    repeat' (first
    | (with_reducible refine aw_seq ?_)
    | (with_reducible refine kont_in ?_; simp only [go_sem, reduceIte, Nat.reduceLT, Nat.reduceEqDiff, Nat.reduceAdd, Nat.reduceMul, Nat.reduceSub, Nat.reduceLeDiff, reduceCtorEq, hc])
    | (with_reducible refine dKont_in ?_; simp only [go_sem, reduceIte, Nat.reduceLT, Nat.reduceEqDiff, Nat.reduceAdd, Nat.reduceMul, Nat.reduceSub, Nat.reduceLeDiff, reduceCtorEq, hc])
    | (with_reducible refine aw_drw (by kernel_rfl) kOk_nil kDet_nil ?_; simp only [go_sem, reduceIte, Nat.reduceLT, Nat.reduceEqDiff, Nat.reduceAdd, Nat.reduceMul, Nat.reduceSub, Nat.reduceLeDiff, reduceCtorEq, hc])
    | (with_reducible refine aw_reg kOk_nil ?_; simp only [go_sem, reduceIte, Nat.reduceLT, Nat.reduceEqDiff, Nat.reduceAdd, Nat.reduceMul, Nat.reduceSub, Nat.reduceLeDiff, reduceCtorEq, hc])
    | (with_reducible refine aw_if ?_; simp only [go_sem, reduceIte, Nat.reduceLT, Nat.reduceEqDiff, Nat.reduceAdd, Nat.reduceMul, Nat.reduceSub, Nat.reduceLeDiff, reduceCtorEq, hc])
    | (with_reducible refine aw_block ?_)
    | (with_reducible refine aw_ret ?_; (try simp only [thenQ, blockQ]); refine aw_ret' ?_; simp only [go_sem, reduceIte, Nat.reduceLT, Nat.reduceEqDiff, Nat.reduceAdd, Nat.reduceMul, Nat.reduceSub, Nat.reduceLeDiff, reduceCtorEq, hc])
    | (with_reducible refine aw_exit ?_; simp only [thenQ, blockQ, reduceIte, Nat.reduceEqDiff])
    | (with_reducible refine aw_skip ?_; simp only [thenQ, blockQ])
    | (with_reducible refine gate_intro (fun h => ?_) (fun h => ?_) <;> simp only [h, go_sem, reduceIte, Nat.reduceLT, Nat.reduceEqDiff, Nat.reduceAdd, Nat.reduceMul, Nat.reduceSub, Nat.reduceLeDiff, reduceCtorEq, hc] <;> (try simp only [decide_eq_true_eq, decide_eq_false_iff_not, Bool.not_true] at h))
    | (with_reducible refine chk_in (by kernel_rfl) ?_)
    | (with_reducible refine And.intro (And.intro (by omega) (by omega)) ?_)
    | (with_reducible refine And.intro (by omega) ?_)
    | (rw [get_in]; rotate_left; omega; simp only [go_sem, reduceIte, Nat.reduceLT, Nat.reduceEqDiff, Nat.reduceAdd, Nat.reduceMul, Nat.reduceSub, Nat.reduceLeDiff, reduceCtorEq, hc])
    | fail)
    refine ⟨_, rfl, ?_, rfl⟩
    rw [List.take_of_length_le hge]; exact .refl _
  | some x =>
    have hlt : i < l.length := (List.getElem?_eq_some_iff.1 hx).1
    have hc : decide ((i : Int) < (l.length : Int)) = true := by simp <;> omega
    have hw := wrS (i := i) (by omega)
    have ht : l.take (i + 1) = l.take i ++ [x] := by rw [List.take_add_one, hx]; rfl
    have hg : (erD x)[2]? = some (i64 x.1.2.2) := rfl
    cases hp : x.1.2.2 == p with
    | true =>
      have hf : (l.take (i + 1)).filter (fun e => e.1.2.2 == p) = (l.take i).filter (fun e => e.1.2.2 == p) ++ [x] := by rw [ht, List.filter_append, List.filter_cons_of_pos (p := fun e : Er => e.1.2.2 == p) hp, List.filter_nil]
      repeat' (first
    | (with_reducible refine aw_seq ?_)
    | (with_reducible refine kont_in ?_; simp only [go_sem, reduceIte, Nat.reduceLT, Nat.reduceEqDiff, Nat.reduceAdd, Nat.reduceMul, Nat.reduceSub, Nat.reduceLeDiff, reduceCtorEq, hc, hw, hx, hg, hp])
    | (with_reducible refine dKont_in ?_; simp only [go_sem, reduceIte, Nat.reduceLT, Nat.reduceEqDiff, Nat.reduceAdd, Nat.reduceMul, Nat.reduceSub, Nat.reduceLeDiff, reduceCtorEq, hc, hw, hx, hg, hp])
    | (with_reducible refine aw_drw (by kernel_rfl) kOk_nil kDet_nil ?_; simp only [go_sem, reduceIte, Nat.reduceLT, Nat.reduceEqDiff, Nat.reduceAdd, Nat.reduceMul, Nat.reduceSub, Nat.reduceLeDiff, reduceCtorEq, hc, hw, hx, hg, hp])
    | (with_reducible refine aw_reg kOk_nil ?_; simp only [go_sem, reduceIte, Nat.reduceLT, Nat.reduceEqDiff, Nat.reduceAdd, Nat.reduceMul, Nat.reduceSub, Nat.reduceLeDiff, reduceCtorEq, hc, hw, hx, hg, hp])
    | (with_reducible refine aw_if ?_; simp only [go_sem, reduceIte, Nat.reduceLT, Nat.reduceEqDiff, Nat.reduceAdd, Nat.reduceMul, Nat.reduceSub, Nat.reduceLeDiff, reduceCtorEq, hc, hw, hx, hg, hp])
    | (with_reducible refine aw_block ?_)
    | (with_reducible refine aw_ret ?_; (try simp only [thenQ, blockQ]); refine aw_ret' ?_; simp only [go_sem, reduceIte, Nat.reduceLT, Nat.reduceEqDiff, Nat.reduceAdd, Nat.reduceMul, Nat.reduceSub, Nat.reduceLeDiff, reduceCtorEq, hc, hw, hx, hg, hp])
    | (with_reducible refine aw_exit ?_; simp only [thenQ, blockQ, reduceIte, Nat.reduceEqDiff])
    | (with_reducible refine aw_skip ?_; simp only [thenQ, blockQ])
    | (with_reducible refine gate_intro (fun h => ?_) (fun h => ?_) <;> simp only [h, go_sem, reduceIte, Nat.reduceLT, Nat.reduceEqDiff, Nat.reduceAdd, Nat.reduceMul, Nat.reduceSub, Nat.reduceLeDiff, reduceCtorEq, hc, hw, hx, hg, hp] <;> (try simp only [decide_eq_true_eq, decide_eq_false_iff_not, Bool.not_true] at h))
    | (with_reducible refine chk_in (by kernel_rfl) ?_)
    | (with_reducible refine And.intro (And.intro (by omega) (by omega)) ?_)
    | (with_reducible refine And.intro (by omega) ?_)
    | (rw [get_in]; rotate_left; omega; simp only [go_sem, reduceIte, Nat.reduceLT, Nat.reduceEqDiff, Nat.reduceAdd, Nat.reduceMul, Nat.reduceSub, Nat.reduceLeDiff, reduceCtorEq, hc, hw, hx, hg, hp])
    | fail)
      refine ⟨i + 1, ?_, hlt, by omega⟩
      rw [hf]; exact weak_in [(100, _)] (by repeat' (first | trivial | constructor | rfl)) (by repeat' (first | trivial | constructor | rfl)) (by rfl) (by rfl) (by rfl)
    | false =>
      have hf : (l.take (i + 1)).filter (fun e => e.1.2.2 == p) = (l.take i).filter (fun e => e.1.2.2 == p) := by rw [ht, List.filter_append, List.filter_cons_of_neg (by simp [hp]), List.filter_nil, List.append_nil]
      repeat' (first
    | (with_reducible refine aw_seq ?_)
    | (with_reducible refine kont_in ?_; simp only [go_sem, reduceIte, Nat.reduceLT, Nat.reduceEqDiff, Nat.reduceAdd, Nat.reduceMul, Nat.reduceSub, Nat.reduceLeDiff, reduceCtorEq, hc, hw, hx, hg, hp])
    | (with_reducible refine dKont_in ?_; simp only [go_sem, reduceIte, Nat.reduceLT, Nat.reduceEqDiff, Nat.reduceAdd, Nat.reduceMul, Nat.reduceSub, Nat.reduceLeDiff, reduceCtorEq, hc, hw, hx, hg, hp])
    | (with_reducible refine aw_drw (by kernel_rfl) kOk_nil kDet_nil ?_; simp only [go_sem, reduceIte, Nat.reduceLT, Nat.reduceEqDiff, Nat.reduceAdd, Nat.reduceMul, Nat.reduceSub, Nat.reduceLeDiff, reduceCtorEq, hc, hw, hx, hg, hp])
    | (with_reducible refine aw_reg kOk_nil ?_; simp only [go_sem, reduceIte, Nat.reduceLT, Nat.reduceEqDiff, Nat.reduceAdd, Nat.reduceMul, Nat.reduceSub, Nat.reduceLeDiff, reduceCtorEq, hc, hw, hx, hg, hp])
    | (with_reducible refine aw_if ?_; simp only [go_sem, reduceIte, Nat.reduceLT, Nat.reduceEqDiff, Nat.reduceAdd, Nat.reduceMul, Nat.reduceSub, Nat.reduceLeDiff, reduceCtorEq, hc, hw, hx, hg, hp])
    | (with_reducible refine aw_block ?_)
    | (with_reducible refine aw_ret ?_; (try simp only [thenQ, blockQ]); refine aw_ret' ?_; simp only [go_sem, reduceIte, Nat.reduceLT, Nat.reduceEqDiff, Nat.reduceAdd, Nat.reduceMul, Nat.reduceSub, Nat.reduceLeDiff, reduceCtorEq, hc, hw, hx, hg, hp])
    | (with_reducible refine aw_exit ?_; simp only [thenQ, blockQ, reduceIte, Nat.reduceEqDiff])
    | (with_reducible refine aw_skip ?_; simp only [thenQ, blockQ])
    | (with_reducible refine gate_intro (fun h => ?_) (fun h => ?_) <;> simp only [h, go_sem, reduceIte, Nat.reduceLT, Nat.reduceEqDiff, Nat.reduceAdd, Nat.reduceMul, Nat.reduceSub, Nat.reduceLeDiff, reduceCtorEq, hc, hw, hx, hg, hp] <;> (try simp only [decide_eq_true_eq, decide_eq_false_iff_not, Bool.not_true] at h))
    | (with_reducible refine chk_in (by kernel_rfl) ?_)
    | (with_reducible refine And.intro (And.intro (by omega) (by omega)) ?_)
    | (with_reducible refine And.intro (by omega) ?_)
    | (rw [get_in]; rotate_left; omega; simp only [go_sem, reduceIte, Nat.reduceLT, Nat.reduceEqDiff, Nat.reduceAdd, Nat.reduceMul, Nat.reduceSub, Nat.reduceLeDiff, reduceCtorEq, hc, hw, hx, hg, hp])
    | fail)
      refine ⟨i + 1, ?_, hlt, by omega⟩
      rw [hf]; exact weak_in [(100, 100)] (by repeat' (first | trivial | constructor | rfl)) (by repeat' (first | trivial | constructor | rfl)) (by rfl) (by rfl) (by rfl)
end Go.Proofs.R1

/- Events of entries: the tape's lists. -/
set_option linter.unusedVariables false
set_option linter.unusedSimpArgs false
set_option maxRecDepth 8000
set_option maxHeartbeats 16000000
namespace Go.Proofs.R1
open Go Go.Abs

abbrev eeC : Con where
  α := Tp × Int × Int
  kinds := [true, false, false]
  args := fun a => [.io (tpD a.1), .d (i64 a.2.1), .d (i64 a.2.2)]
  pre := fun a => tpOk a.1 ∧ (0 ≤ a.2.1 ∧ a.2.1 ≤ 100) ∧ 0 ≤ a.2.2 ∧ a.2.2 ≤ 1000000
  post := fun a r => ∃ (l : List EE) (t : Tp), tpOk t ∧ (l.length : Int) ≤ 2 * a.2.1 ∧ r = ⟨[.own 8 (eeR l)], [tpD t]⟩
  clean := false
/-- A state within a round. -/
def eeI (most n : Int) (i : Nat) (c : Int) (l : List EE) (e : EE) (t : Tp) : S := ⟨envOf [(0, .box 0 0), (1, i64 most), (2, i64 n), (7, .row 100), (8, i64 ((i + 1 : Nat) : Int)), (9, i64 c), (10, .box 101 0)], memOf [(0, .cells (tpD t)), (100, .row 8 (eeR l) true), (101, .cells (eeD e))], 300⟩
theorem ee_ok : CallOk Try.prog 13 eeC := by
  refine ok_of_body_own 111 3 Try.func13 rfl (by decide) Try.ntmps13 (by intro a h; exact ⟨rfl, rfl⟩) (by decide) (by intro h; cases h) ?_
  rintro ⟨t, most, n⟩ ⟨h1, h2, h3⟩
  simp only [eeC] at h1 h2 h3 ⊢
  simp only [initE, initMm, List.length_cons, List.length_nil, Nat.reduceAdd]
  have hK : KOk Try.prog (kOf [(16, nextC), (25, rangeC), (37, stampC), (21, oneC), (35, pickC), (36, wildC), (28, cutC)]) := kOk_cons next_ok' (kOk_cons range_ok' (kOk_cons stampT_ok (kOk_cons one_ok (kOk_cons pick_ok (kOk_cons wild_ok (kOk_cons cut_ok kOk_nil))))))
  repeat' (first
    | (with_reducible refine aw_seq ?_)
    | (with_reducible refine kont_in ?_; simp only [go_sem, reduceIte, Nat.reduceLT, Nat.reduceEqDiff, Nat.reduceAdd, Nat.reduceMul, Nat.reduceSub, Nat.reduceLeDiff, reduceCtorEq, tp_frz, tp_fz])
    | (with_reducible refine dKont_in ?_; simp only [go_sem, reduceIte, Nat.reduceLT, Nat.reduceEqDiff, Nat.reduceAdd, Nat.reduceMul, Nat.reduceSub, Nat.reduceLeDiff, reduceCtorEq, tp_frz, tp_fz])
    | (with_reducible refine aw_drw (by kernel_rfl) hK kDet_nil ?_; simp only [go_sem, reduceIte, Nat.reduceLT, Nat.reduceEqDiff, Nat.reduceAdd, Nat.reduceMul, Nat.reduceSub, Nat.reduceLeDiff, reduceCtorEq, tp_frz, tp_fz])
    | (with_reducible refine aw_reg hK ?_; simp only [go_sem, reduceIte, Nat.reduceLT, Nat.reduceEqDiff, Nat.reduceAdd, Nat.reduceMul, Nat.reduceSub, Nat.reduceLeDiff, reduceCtorEq, tp_frz, tp_fz])
    | (with_reducible refine aw_if ?_; simp only [go_sem, reduceIte, Nat.reduceLT, Nat.reduceEqDiff, Nat.reduceAdd, Nat.reduceMul, Nat.reduceSub, Nat.reduceLeDiff, reduceCtorEq, tp_frz, tp_fz])
    | (with_reducible refine aw_block ?_)
    | (with_reducible refine aw_ret ?_; (try simp only [thenQ, blockQ]); refine aw_ret' ?_; simp only [go_sem, reduceIte, Nat.reduceLT, Nat.reduceEqDiff, Nat.reduceAdd, Nat.reduceMul, Nat.reduceSub, Nat.reduceLeDiff, reduceCtorEq, tp_frz, tp_fz])
    | (with_reducible refine aw_exit ?_; simp only [thenQ, blockQ, reduceIte, Nat.reduceEqDiff])
    | (with_reducible refine aw_skip ?_; simp only [thenQ, blockQ])
    | (with_reducible refine gate_intro (fun h => ?_) (fun h => ?_) <;> simp only [h, go_sem, reduceIte, Nat.reduceLT, Nat.reduceEqDiff, Nat.reduceAdd, Nat.reduceMul, Nat.reduceSub, Nat.reduceLeDiff, reduceCtorEq, tp_frz, tp_fz] <;> (try simp only [decide_eq_true_eq, decide_eq_false_iff_not, Bool.not_true] at h))
    | (with_reducible refine chk_in (by kernel_rfl) ?_)
    | (with_reducible refine And.intro (And.intro (by omega) (by omega)) ?_)
    | (with_reducible refine And.intro (by omega) ?_)
    | (refine rng_call rfl _ _ _ rfl h1 (by omega) rfl (fun k0 t0 ht0 hk0 hk1 => ?_))
    | (rw [get_in]; rotate_left; omega; simp only [go_sem, reduceIte, Nat.reduceLT, Nat.reduceEqDiff, Nat.reduceAdd, Nat.reduceMul, Nat.reduceSub, Nat.reduceLeDiff, reduceCtorEq, tp_frz, tp_fz])
    | fail)
  obtain ⟨k0, rfl⟩ := Int.eq_ofNat_of_zero_le hk0
  refine aw_nil 7 100 8 rfl rfl ?_
  refine aw_rounds (α := Nat × List EE × Tp) (fun x => ⟨envOf [(0, .box 0 0), (1, i64 most), (2, i64 n), (7, .row 100), (8, i64 x.1)], memOf [(0, .cells (tpD x.2.2)), (100, .row 8 (eeR x.2.1) true)], 200⟩)
    (fun x => tpOk x.2.2 ∧ (x.2.1.length : Int) + 2 * x.1 ≤ 2 * most) (fun x => x.1) (k0, [], t0) ⟨ht0, by simp; omega⟩ (weak_in [(100, 100)] (by repeat' (first | trivial | constructor | rfl)) (by repeat' (first | trivial | constructor | rfl)) (by rfl) (by rfl) (by rfl)) ?_
  rintro ⟨i, l, t⟩ ⟨ht, hi⟩
  simp only at ht hi ⊢
  cases i with
  | zero =>
    have hc : decide (((0 : Nat) : Int) > 0) = false := rfl
    repeat' (first
    | (with_reducible refine aw_seq ?_)
    | (with_reducible refine kont_in ?_; simp only [go_sem, reduceIte, Nat.reduceLT, Nat.reduceEqDiff, Nat.reduceAdd, Nat.reduceMul, Nat.reduceSub, Nat.reduceLeDiff, reduceCtorEq, hc, tp_frz, tp_fz])
    | (with_reducible refine dKont_in ?_; simp only [go_sem, reduceIte, Nat.reduceLT, Nat.reduceEqDiff, Nat.reduceAdd, Nat.reduceMul, Nat.reduceSub, Nat.reduceLeDiff, reduceCtorEq, hc, tp_frz, tp_fz])
    | (with_reducible refine aw_drw (by kernel_rfl) hK kDet_nil ?_; simp only [go_sem, reduceIte, Nat.reduceLT, Nat.reduceEqDiff, Nat.reduceAdd, Nat.reduceMul, Nat.reduceSub, Nat.reduceLeDiff, reduceCtorEq, hc, tp_frz, tp_fz])
    | (with_reducible refine aw_reg hK ?_; simp only [go_sem, reduceIte, Nat.reduceLT, Nat.reduceEqDiff, Nat.reduceAdd, Nat.reduceMul, Nat.reduceSub, Nat.reduceLeDiff, reduceCtorEq, hc, tp_frz, tp_fz])
    | (with_reducible refine aw_if ?_; simp only [go_sem, reduceIte, Nat.reduceLT, Nat.reduceEqDiff, Nat.reduceAdd, Nat.reduceMul, Nat.reduceSub, Nat.reduceLeDiff, reduceCtorEq, hc, tp_frz, tp_fz])
    | (with_reducible refine aw_block ?_)
    | (with_reducible refine aw_ret ?_; (try simp only [thenQ, blockQ]); refine aw_ret' ?_; simp only [go_sem, reduceIte, Nat.reduceLT, Nat.reduceEqDiff, Nat.reduceAdd, Nat.reduceMul, Nat.reduceSub, Nat.reduceLeDiff, reduceCtorEq, hc, tp_frz, tp_fz])
    | (with_reducible refine aw_exit ?_; simp only [thenQ, blockQ, reduceIte, Nat.reduceEqDiff])
    | (with_reducible refine aw_skip ?_; simp only [thenQ, blockQ])
    | (with_reducible refine gate_intro (fun h => ?_) (fun h => ?_) <;> simp only [h, go_sem, reduceIte, Nat.reduceLT, Nat.reduceEqDiff, Nat.reduceAdd, Nat.reduceMul, Nat.reduceSub, Nat.reduceLeDiff, reduceCtorEq, hc, tp_frz, tp_fz] <;> (try simp only [decide_eq_true_eq, decide_eq_false_iff_not, Bool.not_true] at h))
    | (with_reducible refine chk_in (by kernel_rfl) ?_)
    | (with_reducible refine And.intro (And.intro (by omega) (by omega)) ?_)
    | (with_reducible refine And.intro (by omega) ?_)
    | (rw [get_in]; rotate_left; omega; simp only [go_sem, reduceIte, Nat.reduceLT, Nat.reduceEqDiff, Nat.reduceAdd, Nat.reduceMul, Nat.reduceSub, Nat.reduceLeDiff, reduceCtorEq, hc, tp_frz, tp_fz])
    | fail)
    exact ⟨_, ⟨l, t, ht, by omega, rfl⟩, OwnLe.refl _, rfl⟩
  | succ i =>
    have hc : decide (((i + 1 : Nat) : Int) > 0) = true := by simp <;> omega
    have hw : IntKind.i64.wrap (((i + 1 : Nat) : Int) - 1) = (i : Int) := by rw [wr64 (by omega) (by omega)]; omega
    repeat' (first
    | (with_reducible refine aw_cut (x := .seq (.region _ _ _) (.cond (.tmp 37) _ _)) (fun s' => ∃ e t, Weak 111 3 s' (eeI most n i c l e t) ∧ tpOk t) ?_ ?_)
    | (with_reducible refine aw_seq ?_)
    | (with_reducible refine kont_in ?_; simp only [go_sem, reduceIte, Nat.reduceLT, Nat.reduceEqDiff, Nat.reduceAdd, Nat.reduceMul, Nat.reduceSub, Nat.reduceLeDiff, reduceCtorEq, hc, tp_frz, tp_fz])
    | (with_reducible refine dKont_in ?_; simp only [go_sem, reduceIte, Nat.reduceLT, Nat.reduceEqDiff, Nat.reduceAdd, Nat.reduceMul, Nat.reduceSub, Nat.reduceLeDiff, reduceCtorEq, hc, tp_frz, tp_fz])
    | (with_reducible refine aw_drw (by kernel_rfl) hK kDet_nil ?_; simp only [go_sem, reduceIte, Nat.reduceLT, Nat.reduceEqDiff, Nat.reduceAdd, Nat.reduceMul, Nat.reduceSub, Nat.reduceLeDiff, reduceCtorEq, hc, tp_frz, tp_fz])
    | (with_reducible refine aw_reg hK ?_; simp only [go_sem, reduceIte, Nat.reduceLT, Nat.reduceEqDiff, Nat.reduceAdd, Nat.reduceMul, Nat.reduceSub, Nat.reduceLeDiff, reduceCtorEq, hc, tp_frz, tp_fz])
    | (with_reducible refine aw_if ?_; simp only [go_sem, reduceIte, Nat.reduceLT, Nat.reduceEqDiff, Nat.reduceAdd, Nat.reduceMul, Nat.reduceSub, Nat.reduceLeDiff, reduceCtorEq, hc, tp_frz, tp_fz])
    | (with_reducible refine aw_block ?_)
    | (with_reducible refine aw_ret ?_; (try simp only [thenQ, blockQ]); refine aw_ret' ?_; simp only [go_sem, reduceIte, Nat.reduceLT, Nat.reduceEqDiff, Nat.reduceAdd, Nat.reduceMul, Nat.reduceSub, Nat.reduceLeDiff, reduceCtorEq, hc, tp_frz, tp_fz])
    | (with_reducible refine aw_exit ?_; simp only [thenQ, blockQ, reduceIte, Nat.reduceEqDiff])
    | (with_reducible refine aw_skip ?_; simp only [thenQ, blockQ])
    | (with_reducible refine gate_intro (fun h => ?_) (fun h => ?_) <;> simp only [h, go_sem, reduceIte, Nat.reduceLT, Nat.reduceEqDiff, Nat.reduceAdd, Nat.reduceMul, Nat.reduceSub, Nat.reduceLeDiff, reduceCtorEq, hc, tp_frz, tp_fz] <;> (try simp only [decide_eq_true_eq, decide_eq_false_iff_not, Bool.not_true] at h))
    | (with_reducible refine chk_in (by kernel_rfl) ?_)
    | (with_reducible refine And.intro (And.intro (by omega) (by omega)) ?_)
    | (with_reducible refine And.intro (by omega) ?_)
    | (refine rng_call rfl _ 1 3 rfl (by assumption) (by omega) rfl (fun c t1 ht1 hc0 hc1 => ?_))
    | (refine rng_call rfl _ 0 24 rfl (by assumption) (by omega) rfl (fun tm t1 ht1 _ _ => ?_))
    | (refine rng_call rfl _ (-1) 4 rfl (by assumption) (by omega) rfl (fun q t1 ht1 _ _ => ?_))
    | (refine next_call rfl _ _ rfl (by assumption) (by simp [go_sem] <;> omega) rfl (fun v t2 ht2 hv _ => ?_))
    | (refine oneb_call rfl _ _ rfl (by assumption) (by omega) rfl (fun b t3 ht3 => ?_))
    | (refine pickw_call rfl _ [1, 1, 1, 2, 3] rfl rfl rfl (by assumption) (by decide) rfl (fun v t2 ht2 => ?_))
    | (refine pickw_call rfl _ [0, 1, 99, 100] rfl rfl rfl (by assumption) (by decide) rfl (fun v t2 ht2 => ?_))
    | (refine pickw_call rfl _ [-1, 31, 32] rfl rfl rfl (by assumption) (by decide) rfl (fun v t2 ht2 => ?_))
    | (refine pickw_call rfl _ [0, 99, 100, _] rfl rfl rfl (by assumption) (by simp) rfl (fun v t2 ht2 => ?_))
    | (refine wildw_call rfl _ rfl (by assumption) rfl (fun v t2 ht2 => ?_))
    | (refine stampT_call rfl _ _ rfl (by assumption) (by omega) (memOf_free rfl) (fun s t2 ht2 => ?_))
    | (refine cutv_call rfl _ 3 (by omega) rfl (fun v _ _ => ?_))
    | (rw [get_in]; rotate_left; omega; simp only [go_sem, reduceIte, Nat.reduceLT, Nat.reduceEqDiff, Nat.reduceAdd, Nat.reduceMul, Nat.reduceSub, Nat.reduceLeDiff, reduceCtorEq, hc, tp_frz, tp_fz])
    | fail)
    all_goals try (first | exact ⟨((_, _, _), _, (_, _, _), _), _, weak_in [(100, 100), (101, _)] (by repeat' (first | trivial | constructor | rfl)) (by repeat' (first | trivial | constructor | rfl)) (by rfl) (by rfl) (by rfl), by assumption⟩)
    clear ht
    rintro s' ⟨⟨⟨a1, a2, a3⟩, k, ⟨⟨b1, b2, b3⟩, to⟩⟩, t, hwk, ht⟩
    refine aw_weak hwk ?_
    simp only [eeI, eeD]
    repeat' (first
    | (with_reducible refine aw_cut (x := .seq (.region _ _ _) (.cond (.tmp 42) _ _)) (fun s' => ∃ e t, Weak 111 3 s' (eeI most n i c l e t) ∧ tpOk t) ?_ ?_)
    | (with_reducible refine aw_seq ?_)
    | (with_reducible refine kont_in ?_; simp only [go_sem, reduceIte, Nat.reduceLT, Nat.reduceEqDiff, Nat.reduceAdd, Nat.reduceMul, Nat.reduceSub, Nat.reduceLeDiff, reduceCtorEq, hc, tp_frz, tp_fz])
    | (with_reducible refine dKont_in ?_; simp only [go_sem, reduceIte, Nat.reduceLT, Nat.reduceEqDiff, Nat.reduceAdd, Nat.reduceMul, Nat.reduceSub, Nat.reduceLeDiff, reduceCtorEq, hc, tp_frz, tp_fz])
    | (with_reducible refine aw_drw (by kernel_rfl) hK kDet_nil ?_; simp only [go_sem, reduceIte, Nat.reduceLT, Nat.reduceEqDiff, Nat.reduceAdd, Nat.reduceMul, Nat.reduceSub, Nat.reduceLeDiff, reduceCtorEq, hc, tp_frz, tp_fz])
    | (with_reducible refine aw_reg hK ?_; simp only [go_sem, reduceIte, Nat.reduceLT, Nat.reduceEqDiff, Nat.reduceAdd, Nat.reduceMul, Nat.reduceSub, Nat.reduceLeDiff, reduceCtorEq, hc, tp_frz, tp_fz])
    | (with_reducible refine aw_if ?_; simp only [go_sem, reduceIte, Nat.reduceLT, Nat.reduceEqDiff, Nat.reduceAdd, Nat.reduceMul, Nat.reduceSub, Nat.reduceLeDiff, reduceCtorEq, hc, tp_frz, tp_fz])
    | (with_reducible refine aw_block ?_)
    | (with_reducible refine aw_ret ?_; (try simp only [thenQ, blockQ]); refine aw_ret' ?_; simp only [go_sem, reduceIte, Nat.reduceLT, Nat.reduceEqDiff, Nat.reduceAdd, Nat.reduceMul, Nat.reduceSub, Nat.reduceLeDiff, reduceCtorEq, hc, tp_frz, tp_fz])
    | (with_reducible refine aw_exit ?_; simp only [thenQ, blockQ, reduceIte, Nat.reduceEqDiff])
    | (with_reducible refine aw_skip ?_; simp only [thenQ, blockQ])
    | (with_reducible refine gate_intro (fun h => ?_) (fun h => ?_) <;> simp only [h, go_sem, reduceIte, Nat.reduceLT, Nat.reduceEqDiff, Nat.reduceAdd, Nat.reduceMul, Nat.reduceSub, Nat.reduceLeDiff, reduceCtorEq, hc, tp_frz, tp_fz] <;> (try simp only [decide_eq_true_eq, decide_eq_false_iff_not, Bool.not_true] at h))
    | (with_reducible refine chk_in (by kernel_rfl) ?_)
    | (with_reducible refine And.intro (And.intro (by omega) (by omega)) ?_)
    | (with_reducible refine And.intro (by omega) ?_)
    | (refine rng_call rfl _ 1 3 rfl (by assumption) (by omega) rfl (fun c t1 ht1 hc0 hc1 => ?_))
    | (refine rng_call rfl _ 0 24 rfl (by assumption) (by omega) rfl (fun tm t1 ht1 _ _ => ?_))
    | (refine rng_call rfl _ (-1) 4 rfl (by assumption) (by omega) rfl (fun q t1 ht1 _ _ => ?_))
    | (refine next_call rfl _ _ rfl (by assumption) (by simp [go_sem] <;> omega) rfl (fun v t2 ht2 hv _ => ?_))
    | (refine oneb_call rfl _ _ rfl (by assumption) (by omega) rfl (fun b t3 ht3 => ?_))
    | (refine pickw_call rfl _ [1, 1, 1, 2, 3] rfl rfl rfl (by assumption) (by decide) rfl (fun v t2 ht2 => ?_))
    | (refine pickw_call rfl _ [0, 1, 99, 100] rfl rfl rfl (by assumption) (by decide) rfl (fun v t2 ht2 => ?_))
    | (refine pickw_call rfl _ [-1, 31, 32] rfl rfl rfl (by assumption) (by decide) rfl (fun v t2 ht2 => ?_))
    | (refine pickw_call rfl _ [0, 99, 100, _] rfl rfl rfl (by assumption) (by simp) rfl (fun v t2 ht2 => ?_))
    | (refine wildw_call rfl _ rfl (by assumption) rfl (fun v t2 ht2 => ?_))
    | (refine stampT_call rfl _ _ rfl (by assumption) (by omega) (memOf_free rfl) (fun s t2 ht2 => ?_))
    | (refine cutv_call rfl _ 3 (by omega) rfl (fun v _ _ => ?_))
    | (rw [get_in]; rotate_left; omega; simp only [go_sem, reduceIte, Nat.reduceLT, Nat.reduceEqDiff, Nat.reduceAdd, Nat.reduceMul, Nat.reduceSub, Nat.reduceLeDiff, reduceCtorEq, hc, tp_frz, tp_fz])
    | fail)
    all_goals try (first | exact ⟨((_, _, _), _, (_, _, _), _), _, weak_in [(100, 100), (101, _)] (by repeat' (first | trivial | constructor | rfl)) (by repeat' (first | trivial | constructor | rfl)) (by rfl) (by rfl) (by rfl), by assumption⟩)
    clear ht
    rintro s' ⟨⟨⟨a1, a2, a3⟩, k, ⟨⟨b1, b2, b3⟩, to⟩⟩, t, hwk, ht⟩
    refine aw_weak hwk ?_
    simp only [eeI, eeD]
    repeat' (first
    | (with_reducible refine aw_cut (x := .seq (.region _ _ _) (.cond (.tmp 56) _ _)) (fun s' => ∃ e t, Weak 111 3 s' (eeI most n i c l e t) ∧ tpOk t) ?_ ?_)
    | (with_reducible refine aw_seq ?_)
    | (with_reducible refine kont_in ?_; simp only [go_sem, reduceIte, Nat.reduceLT, Nat.reduceEqDiff, Nat.reduceAdd, Nat.reduceMul, Nat.reduceSub, Nat.reduceLeDiff, reduceCtorEq, hc, tp_frz, tp_fz])
    | (with_reducible refine dKont_in ?_; simp only [go_sem, reduceIte, Nat.reduceLT, Nat.reduceEqDiff, Nat.reduceAdd, Nat.reduceMul, Nat.reduceSub, Nat.reduceLeDiff, reduceCtorEq, hc, tp_frz, tp_fz])
    | (with_reducible refine aw_drw (by kernel_rfl) hK kDet_nil ?_; simp only [go_sem, reduceIte, Nat.reduceLT, Nat.reduceEqDiff, Nat.reduceAdd, Nat.reduceMul, Nat.reduceSub, Nat.reduceLeDiff, reduceCtorEq, hc, tp_frz, tp_fz])
    | (with_reducible refine aw_reg hK ?_; simp only [go_sem, reduceIte, Nat.reduceLT, Nat.reduceEqDiff, Nat.reduceAdd, Nat.reduceMul, Nat.reduceSub, Nat.reduceLeDiff, reduceCtorEq, hc, tp_frz, tp_fz])
    | (with_reducible refine aw_if ?_; simp only [go_sem, reduceIte, Nat.reduceLT, Nat.reduceEqDiff, Nat.reduceAdd, Nat.reduceMul, Nat.reduceSub, Nat.reduceLeDiff, reduceCtorEq, hc, tp_frz, tp_fz])
    | (with_reducible refine aw_block ?_)
    | (with_reducible refine aw_ret ?_; (try simp only [thenQ, blockQ]); refine aw_ret' ?_; simp only [go_sem, reduceIte, Nat.reduceLT, Nat.reduceEqDiff, Nat.reduceAdd, Nat.reduceMul, Nat.reduceSub, Nat.reduceLeDiff, reduceCtorEq, hc, tp_frz, tp_fz])
    | (with_reducible refine aw_exit ?_; simp only [thenQ, blockQ, reduceIte, Nat.reduceEqDiff])
    | (with_reducible refine aw_skip ?_; simp only [thenQ, blockQ])
    | (with_reducible refine gate_intro (fun h => ?_) (fun h => ?_) <;> simp only [h, go_sem, reduceIte, Nat.reduceLT, Nat.reduceEqDiff, Nat.reduceAdd, Nat.reduceMul, Nat.reduceSub, Nat.reduceLeDiff, reduceCtorEq, hc, tp_frz, tp_fz] <;> (try simp only [decide_eq_true_eq, decide_eq_false_iff_not, Bool.not_true] at h))
    | (with_reducible refine chk_in (by kernel_rfl) ?_)
    | (with_reducible refine And.intro (And.intro (by omega) (by omega)) ?_)
    | (with_reducible refine And.intro (by omega) ?_)
    | (refine rng_call rfl _ 1 3 rfl (by assumption) (by omega) rfl (fun c t1 ht1 hc0 hc1 => ?_))
    | (refine rng_call rfl _ 0 24 rfl (by assumption) (by omega) rfl (fun tm t1 ht1 _ _ => ?_))
    | (refine rng_call rfl _ (-1) 4 rfl (by assumption) (by omega) rfl (fun q t1 ht1 _ _ => ?_))
    | (refine next_call rfl _ _ rfl (by assumption) (by simp [go_sem] <;> omega) rfl (fun v t2 ht2 hv _ => ?_))
    | (refine oneb_call rfl _ _ rfl (by assumption) (by omega) rfl (fun b t3 ht3 => ?_))
    | (refine pickw_call rfl _ [1, 1, 1, 2, 3] rfl rfl rfl (by assumption) (by decide) rfl (fun v t2 ht2 => ?_))
    | (refine pickw_call rfl _ [0, 1, 99, 100] rfl rfl rfl (by assumption) (by decide) rfl (fun v t2 ht2 => ?_))
    | (refine pickw_call rfl _ [-1, 31, 32] rfl rfl rfl (by assumption) (by decide) rfl (fun v t2 ht2 => ?_))
    | (refine pickw_call rfl _ [0, 99, 100, _] rfl rfl rfl (by assumption) (by simp) rfl (fun v t2 ht2 => ?_))
    | (refine wildw_call rfl _ rfl (by assumption) rfl (fun v t2 ht2 => ?_))
    | (refine stampT_call rfl _ _ rfl (by assumption) (by omega) (memOf_free rfl) (fun s t2 ht2 => ?_))
    | (refine cutv_call rfl _ 3 (by omega) rfl (fun v _ _ => ?_))
    | (rw [get_in]; rotate_left; omega; simp only [go_sem, reduceIte, Nat.reduceLT, Nat.reduceEqDiff, Nat.reduceAdd, Nat.reduceMul, Nat.reduceSub, Nat.reduceLeDiff, reduceCtorEq, hc, tp_frz, tp_fz])
    | fail)
    all_goals try (first | exact ⟨((_, _, _), _, (_, _, _), _), _, weak_in [(100, 100), (101, _)] (by repeat' (first | trivial | constructor | rfl)) (by repeat' (first | trivial | constructor | rfl)) (by rfl) (by rfl) (by rfl), by assumption⟩)
    clear ht
    rintro s' ⟨⟨⟨a1, a2, a3⟩, k, ⟨⟨b1, b2, b3⟩, to⟩⟩, t, hwk, ht⟩
    refine aw_weak hwk ?_
    simp only [eeI]
    repeat' (first
    | (with_reducible refine aw_seq ?_)
    | (with_reducible refine kont_in ?_; simp only [go_sem, reduceIte, Nat.reduceLT, Nat.reduceEqDiff, Nat.reduceAdd, Nat.reduceMul, Nat.reduceSub, Nat.reduceLeDiff, reduceCtorEq, hc, hw, tp_frz, tp_fz])
    | (with_reducible refine dKont_in ?_; simp only [go_sem, reduceIte, Nat.reduceLT, Nat.reduceEqDiff, Nat.reduceAdd, Nat.reduceMul, Nat.reduceSub, Nat.reduceLeDiff, reduceCtorEq, hc, hw, tp_frz, tp_fz])
    | (with_reducible refine aw_drw (by kernel_rfl) hK kDet_nil ?_; simp only [go_sem, reduceIte, Nat.reduceLT, Nat.reduceEqDiff, Nat.reduceAdd, Nat.reduceMul, Nat.reduceSub, Nat.reduceLeDiff, reduceCtorEq, hc, hw, tp_frz, tp_fz])
    | (with_reducible refine aw_reg hK ?_; simp only [go_sem, reduceIte, Nat.reduceLT, Nat.reduceEqDiff, Nat.reduceAdd, Nat.reduceMul, Nat.reduceSub, Nat.reduceLeDiff, reduceCtorEq, hc, hw, tp_frz, tp_fz])
    | (with_reducible refine aw_if ?_; simp only [go_sem, reduceIte, Nat.reduceLT, Nat.reduceEqDiff, Nat.reduceAdd, Nat.reduceMul, Nat.reduceSub, Nat.reduceLeDiff, reduceCtorEq, hc, hw, tp_frz, tp_fz])
    | (with_reducible refine aw_block ?_)
    | (with_reducible refine aw_ret ?_; (try simp only [thenQ, blockQ]); refine aw_ret' ?_; simp only [go_sem, reduceIte, Nat.reduceLT, Nat.reduceEqDiff, Nat.reduceAdd, Nat.reduceMul, Nat.reduceSub, Nat.reduceLeDiff, reduceCtorEq, hc, hw, tp_frz, tp_fz])
    | (with_reducible refine aw_exit ?_; simp only [thenQ, blockQ, reduceIte, Nat.reduceEqDiff])
    | (with_reducible refine aw_skip ?_; simp only [thenQ, blockQ])
    | (with_reducible refine gate_intro (fun h => ?_) (fun h => ?_) <;> simp only [h, go_sem, reduceIte, Nat.reduceLT, Nat.reduceEqDiff, Nat.reduceAdd, Nat.reduceMul, Nat.reduceSub, Nat.reduceLeDiff, reduceCtorEq, hc, hw, tp_frz, tp_fz] <;> (try simp only [decide_eq_true_eq, decide_eq_false_iff_not, Bool.not_true] at h))
    | (with_reducible refine chk_in (by kernel_rfl) ?_)
    | (with_reducible refine And.intro (And.intro (by omega) (by omega)) ?_)
    | (with_reducible refine And.intro (by omega) ?_)
    | (refine rng_call rfl _ 1 3 rfl (by assumption) (by omega) rfl (fun c t1 ht1 hc0 hc1 => ?_))
    | (refine rng_call rfl _ 0 24 rfl (by assumption) (by omega) rfl (fun tm t1 ht1 _ _ => ?_))
    | (refine rng_call rfl _ (-1) 4 rfl (by assumption) (by omega) rfl (fun q t1 ht1 _ _ => ?_))
    | (refine next_call rfl _ _ rfl (by assumption) (by simp [go_sem] <;> omega) rfl (fun v t2 ht2 hv _ => ?_))
    | (refine oneb_call rfl _ _ rfl (by assumption) (by omega) rfl (fun b t3 ht3 => ?_))
    | (refine pickw_call rfl _ [1, 1, 1, 2, 3] rfl rfl rfl (by assumption) (by decide) rfl (fun v t2 ht2 => ?_))
    | (refine pickw_call rfl _ [0, 1, 99, 100] rfl rfl rfl (by assumption) (by decide) rfl (fun v t2 ht2 => ?_))
    | (refine pickw_call rfl _ [-1, 31, 32] rfl rfl rfl (by assumption) (by decide) rfl (fun v t2 ht2 => ?_))
    | (refine pickw_call rfl _ [0, 99, 100, _] rfl rfl rfl (by assumption) (by simp) rfl (fun v t2 ht2 => ?_))
    | (refine wildw_call rfl _ rfl (by assumption) rfl (fun v t2 ht2 => ?_))
    | (refine stampT_call rfl _ _ rfl (by assumption) (by omega) (memOf_free rfl) (fun s t2 ht2 => ?_))
    | (refine cutv_call rfl _ 3 (by omega) rfl (fun v _ _ => ?_))
    | (rw [get_in]; rotate_left; omega; simp only [go_sem, reduceIte, Nat.reduceLT, Nat.reduceEqDiff, Nat.reduceAdd, Nat.reduceMul, Nat.reduceSub, Nat.reduceLeDiff, reduceCtorEq, hc, hw, tp_frz, tp_fz])
    | fail)
    · have hv := hv (by omega)
      obtain ⟨e, he⟩ : ∃ e, (l ++ [((a1, a2, a3), k, (b1, b2, b3), to)])[v.toNat]? = some e := ⟨_, List.getElem?_eq_getElem (by simp; omega)⟩
      simp only [go_sem, he, Option.map_some]
      refine ⟨by decide, ?_⟩
      repeat' (first
    | (with_reducible refine aw_seq ?_)
    | (with_reducible refine kont_in ?_; simp only [go_sem, reduceIte, Nat.reduceLT, Nat.reduceEqDiff, Nat.reduceAdd, Nat.reduceMul, Nat.reduceSub, Nat.reduceLeDiff, reduceCtorEq, hc, hw, tp_frz, tp_fz])
    | (with_reducible refine dKont_in ?_; simp only [go_sem, reduceIte, Nat.reduceLT, Nat.reduceEqDiff, Nat.reduceAdd, Nat.reduceMul, Nat.reduceSub, Nat.reduceLeDiff, reduceCtorEq, hc, hw, tp_frz, tp_fz])
    | (with_reducible refine aw_drw (by kernel_rfl) hK kDet_nil ?_; simp only [go_sem, reduceIte, Nat.reduceLT, Nat.reduceEqDiff, Nat.reduceAdd, Nat.reduceMul, Nat.reduceSub, Nat.reduceLeDiff, reduceCtorEq, hc, hw, tp_frz, tp_fz])
    | (with_reducible refine aw_reg hK ?_; simp only [go_sem, reduceIte, Nat.reduceLT, Nat.reduceEqDiff, Nat.reduceAdd, Nat.reduceMul, Nat.reduceSub, Nat.reduceLeDiff, reduceCtorEq, hc, hw, tp_frz, tp_fz])
    | (with_reducible refine aw_if ?_; simp only [go_sem, reduceIte, Nat.reduceLT, Nat.reduceEqDiff, Nat.reduceAdd, Nat.reduceMul, Nat.reduceSub, Nat.reduceLeDiff, reduceCtorEq, hc, hw, tp_frz, tp_fz])
    | (with_reducible refine aw_block ?_)
    | (with_reducible refine aw_ret ?_; (try simp only [thenQ, blockQ]); refine aw_ret' ?_; simp only [go_sem, reduceIte, Nat.reduceLT, Nat.reduceEqDiff, Nat.reduceAdd, Nat.reduceMul, Nat.reduceSub, Nat.reduceLeDiff, reduceCtorEq, hc, hw, tp_frz, tp_fz])
    | (with_reducible refine aw_exit ?_; simp only [thenQ, blockQ, reduceIte, Nat.reduceEqDiff])
    | (with_reducible refine aw_skip ?_; simp only [thenQ, blockQ])
    | (with_reducible refine gate_intro (fun h => ?_) (fun h => ?_) <;> simp only [h, go_sem, reduceIte, Nat.reduceLT, Nat.reduceEqDiff, Nat.reduceAdd, Nat.reduceMul, Nat.reduceSub, Nat.reduceLeDiff, reduceCtorEq, hc, hw, tp_frz, tp_fz] <;> (try simp only [decide_eq_true_eq, decide_eq_false_iff_not, Bool.not_true] at h))
    | (with_reducible refine chk_in (by kernel_rfl) ?_)
    | (with_reducible refine And.intro (And.intro (by omega) (by omega)) ?_)
    | (with_reducible refine And.intro (by omega) ?_)
    | (refine rng_call rfl _ 1 3 rfl (by assumption) (by omega) rfl (fun c t1 ht1 hc0 hc1 => ?_))
    | (refine rng_call rfl _ 0 24 rfl (by assumption) (by omega) rfl (fun tm t1 ht1 _ _ => ?_))
    | (refine rng_call rfl _ (-1) 4 rfl (by assumption) (by omega) rfl (fun q t1 ht1 _ _ => ?_))
    | (refine next_call rfl _ _ rfl (by assumption) (by simp [go_sem] <;> omega) rfl (fun v t2 ht2 hv _ => ?_))
    | (refine oneb_call rfl _ _ rfl (by assumption) (by omega) rfl (fun b t3 ht3 => ?_))
    | (refine pickw_call rfl _ [1, 1, 1, 2, 3] rfl rfl rfl (by assumption) (by decide) rfl (fun v t2 ht2 => ?_))
    | (refine pickw_call rfl _ [0, 1, 99, 100] rfl rfl rfl (by assumption) (by decide) rfl (fun v t2 ht2 => ?_))
    | (refine pickw_call rfl _ [-1, 31, 32] rfl rfl rfl (by assumption) (by decide) rfl (fun v t2 ht2 => ?_))
    | (refine pickw_call rfl _ [0, 99, 100, _] rfl rfl rfl (by assumption) (by simp) rfl (fun v t2 ht2 => ?_))
    | (refine wildw_call rfl _ rfl (by assumption) rfl (fun v t2 ht2 => ?_))
    | (refine stampT_call rfl _ _ rfl (by assumption) (by omega) (memOf_free rfl) (fun s t2 ht2 => ?_))
    | (refine cutv_call rfl _ 3 (by omega) rfl (fun v _ _ => ?_))
    | (rw [get_in]; rotate_left; omega; simp only [go_sem, reduceIte, Nat.reduceLT, Nat.reduceEqDiff, Nat.reduceAdd, Nat.reduceMul, Nat.reduceSub, Nat.reduceLeDiff, reduceCtorEq, hc, hw, tp_frz, tp_fz])
    | fail)
      all_goals exact ⟨(i, l ++ [((a1, a2, a3), k, (b1, b2, b3), to)] ++ [e], t2), weak_in [(100, _)] (by repeat' (first | trivial | constructor | rfl)) (by repeat' (first | trivial | constructor | rfl)) (by rfl) (by rfl) (by rfl), ⟨by assumption, by simp; omega⟩, Nat.lt_succ_self i⟩
    · exact ⟨(i, l ++ [((a1, a2, a3), k, (b1, b2, b3), to)], t3), weak_in [(100, _)] (by repeat' (first | trivial | constructor | rfl)) (by repeat' (first | trivial | constructor | rfl)) (by rfl) (by rfl) (by rfl), ⟨by assumption, by simp; omega⟩, Nat.lt_succ_self i⟩
end Go.Proofs.R1

/- Entries: the chapter's example; laws: Folds. -/
set_option linter.unusedVariables false
set_option linter.unusedSimpArgs false
set_option maxRecDepth 8000
set_option maxHeartbeats 4000000
namespace Go.Proofs.R1
open Go Go.Abs

theorem ee_call {K : Kt} (hk : K 13 = some eeC) {np fid id : Nat} {M : Mem} {nx : D → Mem → Prop} (t : Tp) (most n : Int) (hm : M id = some (.cells (tpD t))) (hp : tpOk t) (h0 : (0 ≤ most ∧ most ≤ 100) ∧ 0 ≤ n ∧ n ≤ 1000000) (hf : ∀ j, M (fid + j) = none)
    (hn : ∀ l t', tpOk t' → (l.length : Int) ≤ 2 * most → nx (.row fid) (upd (upd M id (some (.cells (tpD t')))) fid (some (.row 8 (eeR l) true)))) : semCall K np 13 [.box id 0, i64 most, i64 n] M fid nx :=
  call_ioR hk rfl rfl (t, most, n) (by simp [nf, hm, tpD, slI, nf0]) rfl (by simp [eeC, argsF, ioArg, hm, consAD, tpD, slI, mapO, fz, fz0]) ⟨hp, h0⟩ hf (by rintro r ⟨l, t', h1, h2, rfl⟩; exact hn l t' h1 h2)
theorem dead_call {K : Kt} (hk : K 19 = some deadC) {np fid id : Nat} {M : Mem} {nx : D → Mem → Prop} (t : Tp) (n : Int) (hm : M id = some (.cells (tpD t))) (hp : tpOk t) (h0 : 0 ≤ n ∧ n ≤ 1000000) (hf : ∀ j, M (fid + j) = none)
    (hn : ∀ (d : Dl) t', tpOk t' → (n = 0 → 0 ≤ d.1 ∧ d.1 ≤ d.2 ∧ d.2 ≤ 1000) → nx (.agg (dlD d)) (upd M id (some (.cells (tpD t'))))) : semCall K np 19 [.box id 0, i64 n] M fid nx :=
  call_ioR hk rfl rfl (t, n) (by simp [nf, hm, tpD, slI, nf0]) rfl (by simp [deadC, argsF, ioArg, hm, consAD, tpD, slI, mapO, fz, fz0]) ⟨hp, h0⟩ hf (by rintro r ⟨x, y, t', h1, h2, rfl⟩; exact hn (x, y) t' h1 h2)
theorem foldR_len (l : List EE) (d : Dl) (u : Int) : (foldR l d u).1.length ≤ 300 ∧ (foldR l d u).2.1.length ≤ 300 := by
  unfold foldR
  split
  · simp
  split
  · simp
  · have h1 := foldL_va d ((evR l).1.filter fun e => decide (e.1.1 ≤ u))
    have h2 := foldL_rf d ((evR l).1.filter fun e => decide (e.1.1 ≤ u))
    have h3 := evR_len l
    have h4 := List.length_filter_le (fun e : EE => decide (e.1.1 ≤ u)) (evR l).1
    exact ⟨(vaL_iff.1 h1).1, by simp only; omega⟩
theorem fo_call {K : Kt} {f : FuncId} (hk : K f = some foC) {np fid : Nat} {M : Mem} {nx : D → Mem → Prop} (l : List EE) (d : Dl) (u : Int) {x : D} {y : List D} (hx : fz M true 4 x = some (.sl 8 (eeR l))) (hy : y = dlD d) (hp : l.length ≤ 1000000) (hf : ∀ j, M (fid + j) = none)
    (hn : (foldR l d u).1.length ≤ 300 → (foldR l d u).2.1.length ≤ 300 → nx (.tup [.row fid, .row (fid + 1), i64 (foldR l d u).2.2]) (upd (upd M fid (some (.row 4 (erR (foldR l d u).1) true))) (fid + 1) (some (.row 3 (rfR (foldR l d u).2.1) true)))) : semCall K np f [x, .agg y, i64 u] M fid nx := by
  subst hy
  exact call_clR hk rfl rfl (l, d, u) (by simp only [argsV, mapO, hx]; rfl) hp hf (by rintro r rfl; exact hn (foldR_len l d u).1 (foldR_len l d u).2)
theorem sm_call {K : Kt} (hk : K 24 = some smC) {np fid : Nat} {M : Mem} {nx : D → Mem → Prop} (a b : List Er) {x y : D} (hx : fz M true 4 x = some (.sl 4 (erR a))) (hy : fz M true 4 y = some (.sl 4 (erR b))) (hl : a.length ≤ 1000000 ∧ b.length ≤ 1000000) (hf : M fid = none) (hn : nx (bl (decide (a = b))) M) : semCall K np 24 [x, y] M fid nx :=
  call_fn hk rfl rfl (fun _ _ h => h) (a, b) (by simp only [argsV, mapO, hx, hy]; rfl) hl hf hn
theorem rs_call {K : Kt} (hk : K 27 = some rsC) {np fid : Nat} {M : Mem} {nx : D → Mem → Prop} (a b : List Rf) {x y : D} (hx : fz M true 4 x = some (.sl 3 (rfR a))) (hy : fz M true 4 y = some (.sl 3 (rfR b))) (hl : a.length ≤ 1000000 ∧ b.length ≤ 1000000) (hf : M fid = none) (hn : nx (bl (decide (a = b))) M) : semCall K np 27 [x, y] M fid nx :=
  call_fn hk rfl rfl (fun _ _ h => h) (a, b) (by simp only [argsV, mapO, hx, hy]; rfl) hl hf hn
def exE : List EE := [((16, 7, 2), 1, (5, 7, 1), 0), ((8, 7, 0), 1, (5, 7, 1), 0), ((15, 7, 1), 3, (5, 7, 1), 9)]
theorem ev_ex : evR exE = ([((8, 7, 0), 1, (5, 7, 1), 0), ((15, 7, 1), 3, (5, 7, 1), 9), ((16, 7, 2), 1, (5, 7, 1), 0)], 0) := by
  have h : canF (exE.map (·.1)) (clsI exE) = [1, 2, 0] := (canF_of ⟨by decide, fun i => by
    match i with
    | 0 => decide
    | 1 => decide
    | 2 => decide
    | i + 3 => simp [exE]; intro h; omega⟩).symm
  unfold evR evL evF; rw [h]; rfl
theorem fold_ex : foldR exE (10, 20) 100 = ([((5, 9, 1), false)], [((7, 2), 9)], 0) := by
  unfold foldR; rw [ev_ex]; kernel_rfl
theorem eAwk_ok : CallOk Try.prog 18 trueC := by
  refine ok_of_body' 52 0 Try.func18 rfl (by decide) Try.ntmps18 (by intro a h; exact ⟨rfl, rfl⟩) (by decide) (by rintro _ a r _ rfl; rfl) ?_
  rintro ⟨⟩ h1
  simp only [lawC]
  simp only [initE, initMm, List.length_cons, List.length_nil, Nat.reduceAdd]
  have hK : KOk Try.prog (kOf [(26, foC)]) := kOk_cons fo_ok kOk_nil
  have q1 : eqCells [i64 5, i64 9, i64 1, bl false] [i64 5, i64 9, i64 1, bl false] = some true := by decide
  have q2 : eqCells [i64 7, i64 2, i64 9] [i64 7, i64 2, i64 9] = some true := by decide
  repeat' (first
    | (with_reducible refine aw_seq ?_)
    | (with_reducible refine kont_in ?_; simp only [go_sem, reduceIte, Nat.reduceLT, Nat.reduceEqDiff, Nat.reduceAdd, Nat.reduceMul, Nat.reduceSub, Nat.reduceLeDiff, reduceCtorEq, fold_ex, erD, rfD, q1, q2])
    | (with_reducible refine dKont_in ?_; simp only [go_sem, reduceIte, Nat.reduceLT, Nat.reduceEqDiff, Nat.reduceAdd, Nat.reduceMul, Nat.reduceSub, Nat.reduceLeDiff, reduceCtorEq, fold_ex, erD, rfD, q1, q2])
    | (with_reducible refine aw_drw (by kernel_rfl) hK kDet_nil ?_; simp only [go_sem, reduceIte, Nat.reduceLT, Nat.reduceEqDiff, Nat.reduceAdd, Nat.reduceMul, Nat.reduceSub, Nat.reduceLeDiff, reduceCtorEq, fold_ex, erD, rfD, q1, q2])
    | (with_reducible refine aw_reg hK ?_; simp only [go_sem, reduceIte, Nat.reduceLT, Nat.reduceEqDiff, Nat.reduceAdd, Nat.reduceMul, Nat.reduceSub, Nat.reduceLeDiff, reduceCtorEq, fold_ex, erD, rfD, q1, q2])
    | (with_reducible refine aw_if ?_; simp only [go_sem, reduceIte, Nat.reduceLT, Nat.reduceEqDiff, Nat.reduceAdd, Nat.reduceMul, Nat.reduceSub, Nat.reduceLeDiff, reduceCtorEq, fold_ex, erD, rfD, q1, q2])
    | (with_reducible refine aw_block ?_)
    | (with_reducible refine aw_ret ?_; (try simp only [thenQ, blockQ]); refine aw_ret' ?_; simp only [go_sem, reduceIte, Nat.reduceLT, Nat.reduceEqDiff, Nat.reduceAdd, Nat.reduceMul, Nat.reduceSub, Nat.reduceLeDiff, reduceCtorEq, fold_ex, erD, rfD, q1, q2])
    | (with_reducible refine aw_exit ?_; simp only [thenQ, blockQ, reduceIte, Nat.reduceEqDiff])
    | (with_reducible refine aw_skip ?_; simp only [thenQ, blockQ])
    | (with_reducible refine gate_intro (fun h => ?_) (fun h => ?_) <;> simp only [h, go_sem, reduceIte, Nat.reduceLT, Nat.reduceEqDiff, Nat.reduceAdd, Nat.reduceMul, Nat.reduceSub, Nat.reduceLeDiff, reduceCtorEq, fold_ex, erD, rfD, q1, q2] <;> (try simp only [decide_eq_true_eq, decide_eq_false_iff_not, Bool.not_true] at h))
    | (with_reducible refine chk_in (by kernel_rfl) ?_)
    | (with_reducible refine And.intro (And.intro (by omega) (by omega)) ?_)
    | (with_reducible refine And.intro (by omega) ?_)
    | (refine fo_call rfl exE (10, 20) 100 rfl rfl (by decide) (memOf_free rfl) (fun _ _ => ?_))
    | (rw [get_in]; rotate_left; omega; simp only [go_sem, reduceIte, Nat.reduceLT, Nat.reduceEqDiff, Nat.reduceAdd, Nat.reduceMul, Nat.reduceSub, Nat.reduceLeDiff, reduceCtorEq, fold_ex, erD, rfD, q1, q2])
    | fail)
  all_goals first | rfl | (exfalso; simp at h; done)
abbrev foldsLawC : Con := lawC (List Int × Int) (fun a => [.d (.sl 1 (intL a.1)), .d (i64 a.2)]) (fun a => a.1.length ≤ 9223372036854775807) [false, false]
theorem foldsLaw_ok : CallOk Try.prog 5 foldsLawC := by
  refine ok_of_body' 92 2 Try.func5 rfl (by decide) Try.ntmps5 (by intro a h; exact ⟨rfl, rfl⟩) (by decide) (by rintro _ a r _ rfl; rfl) ?_
  rintro ⟨tl, u⟩ h1
  simp only [lawC] at h1 ⊢
  simp only [initE, initMm, List.length_cons, List.length_nil, Nat.reduceAdd]
  have hK : KOk Try.prog (kOf [(12, newC), (19, deadC), (13, eeC), (25, rangeC), (26, foC), (20, foC), (24, smC), (27, rsC), (18, trueC)]) := kOk_cons new_ok (kOk_cons dead_ok (kOk_cons ee_ok (kOk_cons range_ok' (kOk_cons fo_ok (kOk_cons rfo_ok (kOk_cons sm_ok (kOk_cons rs_ok (kOk_cons eAwk_ok kOk_nil))))))))
  repeat' (first
    | (with_reducible refine aw_seq ?_)
    | (with_reducible refine kont_in ?_; simp only [go_sem, reduceIte, Nat.reduceLT, Nat.reduceEqDiff, Nat.reduceAdd, Nat.reduceMul, Nat.reduceSub, Nat.reduceLeDiff, reduceCtorEq, tp_frz, tp_fz])
    | (with_reducible refine dKont_in ?_; simp only [go_sem, reduceIte, Nat.reduceLT, Nat.reduceEqDiff, Nat.reduceAdd, Nat.reduceMul, Nat.reduceSub, Nat.reduceLeDiff, reduceCtorEq, tp_frz, tp_fz])
    | (with_reducible refine aw_drw (by kernel_rfl) hK kDet_nil ?_; simp only [go_sem, reduceIte, Nat.reduceLT, Nat.reduceEqDiff, Nat.reduceAdd, Nat.reduceMul, Nat.reduceSub, Nat.reduceLeDiff, reduceCtorEq, tp_frz, tp_fz])
    | (with_reducible refine aw_reg hK ?_; simp only [go_sem, reduceIte, Nat.reduceLT, Nat.reduceEqDiff, Nat.reduceAdd, Nat.reduceMul, Nat.reduceSub, Nat.reduceLeDiff, reduceCtorEq, tp_frz, tp_fz])
    | (with_reducible refine aw_if ?_; simp only [go_sem, reduceIte, Nat.reduceLT, Nat.reduceEqDiff, Nat.reduceAdd, Nat.reduceMul, Nat.reduceSub, Nat.reduceLeDiff, reduceCtorEq, tp_frz, tp_fz])
    | (with_reducible refine aw_block ?_)
    | (with_reducible refine aw_ret ?_; (try simp only [thenQ, blockQ]); refine aw_ret' ?_; simp only [go_sem, reduceIte, Nat.reduceLT, Nat.reduceEqDiff, Nat.reduceAdd, Nat.reduceMul, Nat.reduceSub, Nat.reduceLeDiff, reduceCtorEq, tp_frz, tp_fz])
    | (with_reducible refine aw_exit ?_; simp only [thenQ, blockQ, reduceIte, Nat.reduceEqDiff])
    | (with_reducible refine aw_skip ?_; simp only [thenQ, blockQ])
    | (with_reducible refine gate_intro (fun h => ?_) (fun h => ?_) <;> simp only [h, go_sem, reduceIte, Nat.reduceLT, Nat.reduceEqDiff, Nat.reduceAdd, Nat.reduceMul, Nat.reduceSub, Nat.reduceLeDiff, reduceCtorEq, tp_frz, tp_fz] <;> (try simp only [decide_eq_true_eq, decide_eq_false_iff_not, Bool.not_true] at h))
    | (with_reducible refine chk_in (by kernel_rfl) ?_)
    | (with_reducible refine And.intro (And.intro (by omega) (by omega)) ?_)
    | (with_reducible refine And.intro (by omega) ?_)
    | (refine new_call rfl tl h1 (memOf_free rfl) (fun t ht => ?_))
    | (refine dead_call rfl _ _ rfl (by assumption) (by omega) (memOf_free rfl) (fun d t1 ht1 hd => ?_))
    | (refine ee_call rfl _ _ _ rfl (by assumption) (by omega) (memOf_free rfl) (fun l t2 ht2 hl => ?_))
    | (refine rng_call rfl _ _ _ rfl (by assumption) (by omega) rfl (fun v t3 ht3 _ _ => ?_))
    | (refine true_call rfl rfl ?_)
    | (refine fo_call rfl l d _ rfl rfl (by omega) (memOf_free rfl) (fun hf1 hf2 => ?_))
    | (refine sm_call rfl _ _ rfl rfl (by omega) rfl ?_)
    | (refine rs_call rfl _ _ rfl rfl (by omega) rfl ?_)
    | (rw [get_in]; rotate_left; omega; simp only [go_sem, reduceIte, Nat.reduceLT, Nat.reduceEqDiff, Nat.reduceAdd, Nat.reduceMul, Nat.reduceSub, Nat.reduceLeDiff, reduceCtorEq, tp_frz, tp_fz])
    | fail)
  all_goals first | rfl | (exfalso; simp at h; done)
end Go.Proofs.R1

/- Entries: laws: Canonical, Applies. -/
set_option linter.unusedVariables false
set_option linter.unusedSimpArgs false
set_option maxRecDepth 8000
set_option maxHeartbeats 8000000
namespace Go.Proofs.R1
open Go Go.Abs

abbrev canLaw4C : Con := lawC (List Int) (fun a => [.d (.sl 1 (intL a))]) (fun a => a.length ≤ 9223372036854775807) [false]
theorem canLaw4_ok : CallOk Try.prog 3 canLaw4C := by
  refine ok_of_body' 84 1 Try.func3 rfl (by decide) Try.ntmps3 (by intro a h; exact ⟨rfl, rfl⟩) (by decide) (by rintro _ a r _ rfl; rfl) ?_
  rintro tl h1
  simp only [lawC] at h1 ⊢
  simp only [initE, initMm, List.length_cons, List.length_nil, Nat.reduceAdd]
  have s1 : nextC.srt = none := rfl
  have c1 : nextC.clean = false := rfl
  have i1 : nextC.kinds = [true, false] := rfl
  have s2 : eeSameC.srt = none := rfl
  have c2 : eeSameC.clean = true := rfl
  have s3 : trueC.srt = none := rfl
  have c3 : trueC.clean = true := rfl
  have hK : KOk Try.prog (kOf [(12, newC), (13, eeC), (16, nextC), (14, eecC), (15, eecC), (17, eeSameC), (18, trueC)]) := kOk_cons new_ok (kOk_cons ee_ok (kOk_cons next_ok' (kOk_cons eeCan_ok (kOk_cons eeRef_ok (kOk_cons eeSame_ok (kOk_cons eAwk_ok kOk_nil))))))
  have hK2 : KOk Try.prog (kOf [(16, nextC), (17, eeSameC), (18, trueC)]) := kOk_cons next_ok' (kOk_cons eeSame_ok (kOk_cons eAwk_ok kOk_nil))
  have hD : KDet (kOf [(16, nextC), (17, eeSameC), (18, trueC)]) := kDet_cons (fun _ _ => ⟨_, rfl, by simp, fun _ h => h⟩) (kDet_cons (fun _ _ => ⟨_, rfl, by simp, fun _ h => h⟩) (kDet_cons (fun _ _ => ⟨_, rfl, by simp, fun _ h => h⟩) kDet_nil))
  have b0 : ∀ n : Int, (n != n) = false := fun n => by simp
  repeat' (first
    | (with_reducible refine aw_seq ?_)
    | (with_reducible refine kont_in ?_; simp only [go_sem, reduceIte, Nat.reduceLT, Nat.reduceEqDiff, Nat.reduceAdd, Nat.reduceMul, Nat.reduceSub, Nat.reduceLeDiff, reduceCtorEq, tp_frz, tp_fz, b0])
    | (with_reducible refine dKont_in ?_; simp only [go_sem, reduceIte, Nat.reduceLT, Nat.reduceEqDiff, Nat.reduceAdd, Nat.reduceMul, Nat.reduceSub, Nat.reduceLeDiff, reduceCtorEq, tp_frz, tp_fz, b0])
    | (with_reducible refine aw_drw (by kernel_rfl) hK2 hD ?_; simp only [go_sem, reduceIte, Nat.reduceLT, Nat.reduceEqDiff, Nat.reduceAdd, Nat.reduceMul, Nat.reduceSub, Nat.reduceLeDiff, reduceCtorEq, tp_frz, tp_fz, b0])
    | (with_reducible refine aw_reg hK ?_; simp only [go_sem, reduceIte, Nat.reduceLT, Nat.reduceEqDiff, Nat.reduceAdd, Nat.reduceMul, Nat.reduceSub, Nat.reduceLeDiff, reduceCtorEq, tp_frz, tp_fz, b0])
    | (with_reducible refine aw_if ?_; simp only [go_sem, reduceIte, Nat.reduceLT, Nat.reduceEqDiff, Nat.reduceAdd, Nat.reduceMul, Nat.reduceSub, Nat.reduceLeDiff, reduceCtorEq, tp_frz, tp_fz, b0])
    | (with_reducible refine aw_block ?_)
    | (with_reducible refine aw_ret ?_; (try simp only [thenQ, blockQ]); refine aw_ret' ?_; simp only [go_sem, reduceIte, Nat.reduceLT, Nat.reduceEqDiff, Nat.reduceAdd, Nat.reduceMul, Nat.reduceSub, Nat.reduceLeDiff, reduceCtorEq, tp_frz, tp_fz, b0])
    | (with_reducible refine aw_exit ?_; simp only [thenQ, blockQ, reduceIte, Nat.reduceEqDiff])
    | (with_reducible refine aw_skip ?_; simp only [thenQ, blockQ])
    | (with_reducible refine gate_intro (fun h => ?_) (fun h => ?_) <;> simp only [h, go_sem, reduceIte, Nat.reduceLT, Nat.reduceEqDiff, Nat.reduceAdd, Nat.reduceMul, Nat.reduceSub, Nat.reduceLeDiff, reduceCtorEq, tp_frz, tp_fz, b0] <;> (try simp only [decide_eq_true_eq, decide_eq_false_iff_not, Bool.not_true] at h))
    | (with_reducible refine chk_in (by kernel_rfl) ?_)
    | (with_reducible refine And.intro (And.intro (by omega) (by omega)) ?_)
    | (with_reducible refine And.intro (by omega) ?_)
    | (refine new_call rfl tl h1 (memOf_free rfl) (fun t ht => ?_))
    | (refine dead_call rfl _ _ rfl (by assumption) (by omega) (memOf_free rfl) (fun d t1 ht1 hd => ?_))
    | (refine true_call rfl rfl ?_)
    | (refine ee_call rfl _ _ _ rfl (by assumption) (by omega) (memOf_free rfl) (fun l t2 ht2 hl => ?_))
    | (refine can_call rfl l rfl (by omega) (memOf_free rfl) ?_)
    | (rw [get_in]; rotate_left; omega; simp only [go_sem, reduceIte, Nat.reduceLT, Nat.reduceEqDiff, Nat.reduceAdd, Nat.reduceMul, Nat.reduceSub, Nat.reduceLeDiff, reduceCtorEq, tp_frz, tp_fz, b0])
    | fail)
  have hes := evR_len l
  generalize (evR l).1 = es at *
  refine aw_rounds (α := Nat) (fun i => ⟨envOf [(9, i64 i), (5, .row 101), (7, .row 102), (4, .row 103), (3, .box 104 0)], memOf [(101, .row 8 (eeR es) true), (102, .row 8 (eeR es) true), (103, .row 8 (eeR l) true), (104, .cells (tpD t2))], 200⟩)
    (fun i => i ≤ es.length) (fun i => es.length - i) 0 (Nat.zero_le _) (weak_in [(101, 33), (102, 61), (103, 21), (104, 9)] (by repeat' (first | trivial | constructor | rfl)) (by repeat' (first | trivial | constructor | rfl)) (by rfl) (by rfl) (by rfl)) ?_
  intro i hi
  cases hx : es[i]? with
  | some x =>
    have hlt : i < es.length := (List.getElem?_eq_some_iff.1 hx).1
    have hc : decide ((i : Int) < (es.length : Int)) = true := by simp <;> omega
    have hw := wrS (i := i) (by omega)
    have q : eqCells (eeD x) (eeD x) = some true := by rw [eeD_eqc]; simp
    repeat' (first
    | (with_reducible refine aw_seq ?_)
    | (with_reducible refine kont_in ?_; simp only [go_sem, reduceIte, Nat.reduceLT, Nat.reduceEqDiff, Nat.reduceAdd, Nat.reduceMul, Nat.reduceSub, Nat.reduceLeDiff, reduceCtorEq, hc, hx, hw, q])
    | (with_reducible refine dKont_in ?_; simp only [go_sem, reduceIte, Nat.reduceLT, Nat.reduceEqDiff, Nat.reduceAdd, Nat.reduceMul, Nat.reduceSub, Nat.reduceLeDiff, reduceCtorEq, hc, hx, hw, q])
    | (with_reducible refine aw_drw (by kernel_rfl) kOk_nil kDet_nil ?_; simp only [go_sem, reduceIte, Nat.reduceLT, Nat.reduceEqDiff, Nat.reduceAdd, Nat.reduceMul, Nat.reduceSub, Nat.reduceLeDiff, reduceCtorEq, hc, hx, hw, q])
    | (with_reducible refine aw_reg hK ?_; simp only [go_sem, reduceIte, Nat.reduceLT, Nat.reduceEqDiff, Nat.reduceAdd, Nat.reduceMul, Nat.reduceSub, Nat.reduceLeDiff, reduceCtorEq, hc, hx, hw, q])
    | (with_reducible refine aw_if ?_; simp only [go_sem, reduceIte, Nat.reduceLT, Nat.reduceEqDiff, Nat.reduceAdd, Nat.reduceMul, Nat.reduceSub, Nat.reduceLeDiff, reduceCtorEq, hc, hx, hw, q])
    | (with_reducible refine aw_block ?_)
    | (with_reducible refine aw_ret ?_; (try simp only [thenQ, blockQ]); refine aw_ret' ?_; simp only [go_sem, reduceIte, Nat.reduceLT, Nat.reduceEqDiff, Nat.reduceAdd, Nat.reduceMul, Nat.reduceSub, Nat.reduceLeDiff, reduceCtorEq, hc, hx, hw, q])
    | (with_reducible refine aw_exit ?_; simp only [thenQ, blockQ, reduceIte, Nat.reduceEqDiff])
    | (with_reducible refine aw_skip ?_; simp only [thenQ, blockQ])
    | (with_reducible refine gate_intro (fun h => ?_) (fun h => ?_) <;> simp only [h, go_sem, reduceIte, Nat.reduceLT, Nat.reduceEqDiff, Nat.reduceAdd, Nat.reduceMul, Nat.reduceSub, Nat.reduceLeDiff, reduceCtorEq, hc, hx, hw, q] <;> (try simp only [decide_eq_true_eq, decide_eq_false_iff_not, Bool.not_true] at h))
    | (with_reducible refine chk_in (by kernel_rfl) ?_)
    | (with_reducible refine And.intro (And.intro (by omega) (by omega)) ?_)
    | (with_reducible refine And.intro (by omega) ?_)
    | (rw [get_in]; rotate_left; omega; simp only [go_sem, reduceIte, Nat.reduceLT, Nat.reduceEqDiff, Nat.reduceAdd, Nat.reduceMul, Nat.reduceSub, Nat.reduceLeDiff, reduceCtorEq, hc, hx, hw, q])
    | fail)
    exact ⟨i + 1, weak_in [(101, 101), (102, 102), (103, 103), (104, 104)] (by repeat' (first | trivial | constructor | rfl)) (by repeat' (first | trivial | constructor | rfl)) (by rfl) (by rfl) (by rfl), hlt, by omega⟩
  | none =>
    have hge : es.length ≤ i := by simpa using hx
    have hc : decide ((i : Int) < (es.length : Int)) = false := by simp <;> omega
    cases l with
    | nil =>
      have hc2 : decide (((0 : Nat) : Int) > 0) = false := rfl
      repeat' (first
    | (with_reducible refine aw_seq ?_)
    | (with_reducible refine kont_in ?_; simp only [go_sem, reduceIte, Nat.reduceLT, Nat.reduceEqDiff, Nat.reduceAdd, Nat.reduceMul, Nat.reduceSub, Nat.reduceLeDiff, reduceCtorEq, hc, hc2, tp_frz, tp_fz])
    | (with_reducible refine dKont_in ?_; simp only [go_sem, reduceIte, Nat.reduceLT, Nat.reduceEqDiff, Nat.reduceAdd, Nat.reduceMul, Nat.reduceSub, Nat.reduceLeDiff, reduceCtorEq, hc, hc2, tp_frz, tp_fz])
    | (with_reducible refine aw_drw (by kernel_rfl) kOk_nil kDet_nil ?_; simp only [go_sem, reduceIte, Nat.reduceLT, Nat.reduceEqDiff, Nat.reduceAdd, Nat.reduceMul, Nat.reduceSub, Nat.reduceLeDiff, reduceCtorEq, hc, hc2, tp_frz, tp_fz])
    | (with_reducible refine aw_reg hK ?_; simp only [go_sem, reduceIte, Nat.reduceLT, Nat.reduceEqDiff, Nat.reduceAdd, Nat.reduceMul, Nat.reduceSub, Nat.reduceLeDiff, reduceCtorEq, hc, hc2, tp_frz, tp_fz])
    | (with_reducible refine aw_if ?_; simp only [go_sem, reduceIte, Nat.reduceLT, Nat.reduceEqDiff, Nat.reduceAdd, Nat.reduceMul, Nat.reduceSub, Nat.reduceLeDiff, reduceCtorEq, hc, hc2, tp_frz, tp_fz])
    | (with_reducible refine aw_block ?_)
    | (with_reducible refine aw_ret ?_; (try simp only [thenQ, blockQ]); refine aw_ret' ?_; simp only [go_sem, reduceIte, Nat.reduceLT, Nat.reduceEqDiff, Nat.reduceAdd, Nat.reduceMul, Nat.reduceSub, Nat.reduceLeDiff, reduceCtorEq, hc, hc2, tp_frz, tp_fz])
    | (with_reducible refine aw_exit ?_; simp only [thenQ, blockQ, reduceIte, Nat.reduceEqDiff])
    | (with_reducible refine aw_skip ?_; simp only [thenQ, blockQ])
    | (with_reducible refine gate_intro (fun h => ?_) (fun h => ?_) <;> simp only [h, go_sem, reduceIte, Nat.reduceLT, Nat.reduceEqDiff, Nat.reduceAdd, Nat.reduceMul, Nat.reduceSub, Nat.reduceLeDiff, reduceCtorEq, hc, hc2, tp_frz, tp_fz] <;> (try simp only [decide_eq_true_eq, decide_eq_false_iff_not, Bool.not_true] at h))
    | (with_reducible refine chk_in (by kernel_rfl) ?_)
    | (with_reducible refine And.intro (And.intro (by omega) (by omega)) ?_)
    | (with_reducible refine And.intro (by omega) ?_)
    | (refine true_call rfl rfl ?_)
    | (rw [get_in]; rotate_left; omega; simp only [go_sem, reduceIte, Nat.reduceLT, Nat.reduceEqDiff, Nat.reduceAdd, Nat.reduceMul, Nat.reduceSub, Nat.reduceLeDiff, reduceCtorEq, hc, hc2, tp_frz, tp_fz])
    | fail)
    | cons e0 l0 =>
      generalize hL : e0 :: l0 = l at *
      have hpos : 0 < l.length := by rw [← hL]; simp
      have hc2 : decide ((l.length : Int) > 0) = true := by simp; omega
      repeat' (first
    | (with_reducible refine aw_seq ?_)
    | (with_reducible refine kont_in ?_; simp only [go_sem, reduceIte, Nat.reduceLT, Nat.reduceEqDiff, Nat.reduceAdd, Nat.reduceMul, Nat.reduceSub, Nat.reduceLeDiff, reduceCtorEq, hc, hc2, b0, eeD_eqc, eq_self, beq_self_eq_true, s1, c1, i1, s2, c2, s3, c3, tp_frz, tp_fz])
    | (with_reducible refine dKont_in ?_; simp only [go_sem, reduceIte, Nat.reduceLT, Nat.reduceEqDiff, Nat.reduceAdd, Nat.reduceMul, Nat.reduceSub, Nat.reduceLeDiff, reduceCtorEq, hc, hc2, b0, eeD_eqc, eq_self, beq_self_eq_true, s1, c1, i1, s2, c2, s3, c3, tp_frz, tp_fz])
    | (with_reducible refine aw_drw (by kernel_rfl) hK2 hD ?_; simp only [go_sem, reduceIte, Nat.reduceLT, Nat.reduceEqDiff, Nat.reduceAdd, Nat.reduceMul, Nat.reduceSub, Nat.reduceLeDiff, reduceCtorEq, hc, hc2, b0, eeD_eqc, eq_self, beq_self_eq_true, s1, c1, i1, s2, c2, s3, c3, tp_frz, tp_fz])
    | (with_reducible refine aw_reg hK ?_; simp only [go_sem, reduceIte, Nat.reduceLT, Nat.reduceEqDiff, Nat.reduceAdd, Nat.reduceMul, Nat.reduceSub, Nat.reduceLeDiff, reduceCtorEq, hc, hc2, b0, eeD_eqc, eq_self, beq_self_eq_true, s1, c1, i1, s2, c2, s3, c3, tp_frz, tp_fz])
    | (with_reducible refine aw_if ?_; simp only [go_sem, reduceIte, Nat.reduceLT, Nat.reduceEqDiff, Nat.reduceAdd, Nat.reduceMul, Nat.reduceSub, Nat.reduceLeDiff, reduceCtorEq, hc, hc2, b0, eeD_eqc, eq_self, beq_self_eq_true, s1, c1, i1, s2, c2, s3, c3, tp_frz, tp_fz])
    | (with_reducible refine aw_block ?_)
    | (with_reducible refine aw_ret ?_; (try simp only [thenQ, blockQ]); refine aw_ret' ?_; simp only [go_sem, reduceIte, Nat.reduceLT, Nat.reduceEqDiff, Nat.reduceAdd, Nat.reduceMul, Nat.reduceSub, Nat.reduceLeDiff, reduceCtorEq, hc, hc2, b0, eeD_eqc, eq_self, beq_self_eq_true, s1, c1, i1, s2, c2, s3, c3, tp_frz, tp_fz])
    | (with_reducible refine aw_exit ?_; simp only [thenQ, blockQ, reduceIte, Nat.reduceEqDiff])
    | (with_reducible refine aw_skip ?_; simp only [thenQ, blockQ])
    | (with_reducible refine gate_intro (fun h => ?_) (fun h => ?_) <;> simp only [h, go_sem, reduceIte, Nat.reduceLT, Nat.reduceEqDiff, Nat.reduceAdd, Nat.reduceMul, Nat.reduceSub, Nat.reduceLeDiff, reduceCtorEq, hc, hc2, b0, eeD_eqc, eq_self, beq_self_eq_true, s1, c1, i1, s2, c2, s3, c3, tp_frz, tp_fz] <;> (try simp only [decide_eq_true_eq, decide_eq_false_iff_not, Bool.not_true] at h))
    | (with_reducible refine chk_in (by kernel_rfl) ?_)
    | (with_reducible refine And.intro (And.intro (by omega) (by omega)) ?_)
    | (with_reducible refine And.intro (by omega) ?_)
    | (refine next_call rfl _ _ rfl (by assumption) (by omega) rfl (fun v1 t3 ht3 hv1 _ => ?_))
    | (refine eeSame_call rfl _ _ rfl ?_)
    | (refine true_call rfl rfl ?_)
    | (rw [get_in]; rotate_left; omega; simp only [go_sem, reduceIte, Nat.reduceLT, Nat.reduceEqDiff, Nat.reduceAdd, Nat.reduceMul, Nat.reduceSub, Nat.reduceLeDiff, reduceCtorEq, hc, hc2, b0, eeD_eqc, eq_self, beq_self_eq_true, s1, c1, i1, s2, c2, s3, c3, tp_frz, tp_fz])
    | fail)
      all_goals first | rfl | (exfalso; simp at h; done)
theorem applyR_len (l : List Er) (d : Dl) (e : EE) : (applyR l d e).1.length ≤ l.length + 1 := by
  unfold applyR
  split
  · simp
  split
  · simp
  unfold applyB
  cases atE l e.2.2.1 with
  | some r =>
    simp only
    split
    · simp
    split
    · simp
    split
    · have := (outE_sub l (posE l e.2.2.1)).length_le
      simp only; omega
    · simp
  | none =>
    simp only
    split
    · simp
    split
    · simp
    · simp [insE_len]
abbrev applLawC : Con := lawC (List Int) (fun a => [.d (.sl 1 (intL a))]) (fun a => a.length ≤ 9223372036854775807) [false]
theorem applLaw_ok : CallOk Try.prog 4 applLawC := by
  refine ok_of_body' 81 1 Try.func4 rfl (by decide) Try.ntmps4 (by intro a h; exact ⟨rfl, rfl⟩) (by decide) (by rintro _ a r _ rfl; rfl) ?_
  rintro tl h1
  simp only [lawC] at h1 ⊢
  simp only [initE, initMm, List.length_cons, List.length_nil, Nat.reduceAdd]
  have s1 : apC.srt = none := rfl
  have c1 : apC.clean = true := rfl
  have hK : KOk Try.prog (kOf [(12, newC), (19, deadC), (13, eeC), (16, nextC), (21, oneC), (20, foC), (22, apC), (23, apC), (24, smC), (18, trueC)]) := kOk_cons new_ok (kOk_cons dead_ok (kOk_cons ee_ok (kOk_cons next_ok' (kOk_cons one_ok (kOk_cons rfo_ok (kOk_cons ap_ok (kOk_cons rap_ok (kOk_cons sm_ok (kOk_cons eAwk_ok kOk_nil)))))))))
  have hK2 : KOk Try.prog (kOf [(22, apC), (23, apC)]) := kOk_cons ap_ok (kOk_cons rap_ok kOk_nil)
  have hD : KDet (kOf [(22, apC), (23, apC)]) := kDet_cons (fun _ _ => ⟨_, rfl, by simp, fun _ h => h⟩) (kDet_cons (fun _ _ => ⟨_, rfl, by simp, fun _ h => h⟩) kDet_nil)
  have b0 : ∀ n : Int, (n != n) = false := fun n => by simp
  repeat' (first
    | (with_reducible refine aw_cut (x := .seq (.region _ _ _) (.cond (.tmp 32) _ _)) (fun s' => ∃ (l : List Er) (d : Dl) (t : Tp), tpOk t ∧ l.length ≤ 301 ∧ Weak 81 1 s' ⟨envOf [(5, .row 101), (4, .box 102 0), (3, .box 103 0)], memOf [(101, .row 4 (erR l) true), (102, .cells (dlD d)), (103, .cells (tpD t))], 200⟩) ?_ ?_)
    | (with_reducible refine aw_seq ?_)
    | (with_reducible refine kont_in ?_; simp only [go_sem, reduceIte, Nat.reduceLT, Nat.reduceEqDiff, Nat.reduceAdd, Nat.reduceMul, Nat.reduceSub, Nat.reduceLeDiff, reduceCtorEq, tp_frz, tp_fz, b0])
    | (with_reducible refine dKont_in ?_; simp only [go_sem, reduceIte, Nat.reduceLT, Nat.reduceEqDiff, Nat.reduceAdd, Nat.reduceMul, Nat.reduceSub, Nat.reduceLeDiff, reduceCtorEq, tp_frz, tp_fz, b0])
    | (with_reducible refine aw_drw (by kernel_rfl) hK2 hD ?_; simp only [go_sem, reduceIte, Nat.reduceLT, Nat.reduceEqDiff, Nat.reduceAdd, Nat.reduceMul, Nat.reduceSub, Nat.reduceLeDiff, reduceCtorEq, tp_frz, tp_fz, b0])
    | (with_reducible refine aw_reg hK ?_; simp only [go_sem, reduceIte, Nat.reduceLT, Nat.reduceEqDiff, Nat.reduceAdd, Nat.reduceMul, Nat.reduceSub, Nat.reduceLeDiff, reduceCtorEq, tp_frz, tp_fz, b0])
    | (with_reducible refine aw_if ?_; simp only [go_sem, reduceIte, Nat.reduceLT, Nat.reduceEqDiff, Nat.reduceAdd, Nat.reduceMul, Nat.reduceSub, Nat.reduceLeDiff, reduceCtorEq, tp_frz, tp_fz, b0])
    | (with_reducible refine aw_block ?_)
    | (with_reducible refine aw_ret ?_; (try simp only [thenQ, blockQ]); refine aw_ret' ?_; simp only [go_sem, reduceIte, Nat.reduceLT, Nat.reduceEqDiff, Nat.reduceAdd, Nat.reduceMul, Nat.reduceSub, Nat.reduceLeDiff, reduceCtorEq, tp_frz, tp_fz, b0])
    | (with_reducible refine aw_exit ?_; simp only [thenQ, blockQ, reduceIte, Nat.reduceEqDiff])
    | (with_reducible refine aw_skip ?_; simp only [thenQ, blockQ])
    | (with_reducible refine gate_intro (fun h => ?_) (fun h => ?_) <;> simp only [h, go_sem, reduceIte, Nat.reduceLT, Nat.reduceEqDiff, Nat.reduceAdd, Nat.reduceMul, Nat.reduceSub, Nat.reduceLeDiff, reduceCtorEq, tp_frz, tp_fz, b0] <;> (try simp only [decide_eq_true_eq, decide_eq_false_iff_not, Bool.not_true] at h))
    | (with_reducible refine chk_in (by kernel_rfl) ?_)
    | (with_reducible refine And.intro (And.intro (by omega) (by omega)) ?_)
    | (with_reducible refine And.intro (by omega) ?_)
    | (refine new_call rfl tl h1 (memOf_free rfl) (fun t ht => ?_))
    | (refine dead_call rfl _ _ rfl (by assumption) (by omega) (memOf_free rfl) (fun d t1 ht1 hd => ?_))
    | (refine true_call rfl rfl ?_)
    | (refine ee_call rfl _ _ _ rfl (by assumption) (by omega) (memOf_free rfl) (fun l t2 ht2 hl => ?_))
    | (refine fo_call rfl l (20, 24) _ rfl rfl (by omega) (memOf_free rfl) (fun hf1 hf2 => ?_))
    | (refine oneb_call rfl _ _ rfl (by assumption) (by omega) rfl (fun b t3 ht3 => ?_))
    | (refine next_call rfl _ _ rfl (by assumption) (by omega) rfl (fun v1 t3 ht3 hv1 _ => ?_))
    | (rw [get_in]; rotate_left; omega; simp only [go_sem, reduceIte, Nat.reduceLT, Nat.reduceEqDiff, Nat.reduceAdd, Nat.reduceMul, Nat.reduceSub, Nat.reduceLeDiff, reduceCtorEq, tp_frz, tp_fz, b0])
    | fail)
  rotate_right
  · rintro s' ⟨l, d, t, ht, hl, hwk⟩
    refine aw_weak hwk ?_
    clear hwk s'
    repeat' (first
    | (with_reducible refine aw_seq ?_)
    | (with_reducible refine kont_in ?_; simp only [go_sem, reduceIte, Nat.reduceLT, Nat.reduceEqDiff, Nat.reduceAdd, Nat.reduceMul, Nat.reduceSub, Nat.reduceLeDiff, reduceCtorEq, tp_frz, tp_fz, b0])
    | (with_reducible refine dKont_in ?_; simp only [go_sem, reduceIte, Nat.reduceLT, Nat.reduceEqDiff, Nat.reduceAdd, Nat.reduceMul, Nat.reduceSub, Nat.reduceLeDiff, reduceCtorEq, tp_frz, tp_fz, b0])
    | (with_reducible refine aw_drw (by kernel_rfl) hK2 hD ?_; simp only [go_sem, reduceIte, Nat.reduceLT, Nat.reduceEqDiff, Nat.reduceAdd, Nat.reduceMul, Nat.reduceSub, Nat.reduceLeDiff, reduceCtorEq, tp_frz, tp_fz, b0])
    | (with_reducible refine aw_reg hK ?_; simp only [go_sem, reduceIte, Nat.reduceLT, Nat.reduceEqDiff, Nat.reduceAdd, Nat.reduceMul, Nat.reduceSub, Nat.reduceLeDiff, reduceCtorEq, tp_frz, tp_fz, b0])
    | (with_reducible refine aw_if ?_; simp only [go_sem, reduceIte, Nat.reduceLT, Nat.reduceEqDiff, Nat.reduceAdd, Nat.reduceMul, Nat.reduceSub, Nat.reduceLeDiff, reduceCtorEq, tp_frz, tp_fz, b0])
    | (with_reducible refine aw_block ?_)
    | (with_reducible refine aw_ret ?_; (try simp only [thenQ, blockQ]); refine aw_ret' ?_; simp only [go_sem, reduceIte, Nat.reduceLT, Nat.reduceEqDiff, Nat.reduceAdd, Nat.reduceMul, Nat.reduceSub, Nat.reduceLeDiff, reduceCtorEq, tp_frz, tp_fz, b0])
    | (with_reducible refine aw_exit ?_; simp only [thenQ, blockQ, reduceIte, Nat.reduceEqDiff])
    | (with_reducible refine aw_skip ?_; simp only [thenQ, blockQ])
    | (with_reducible refine gate_intro (fun h => ?_) (fun h => ?_) <;> simp only [h, go_sem, reduceIte, Nat.reduceLT, Nat.reduceEqDiff, Nat.reduceAdd, Nat.reduceMul, Nat.reduceSub, Nat.reduceLeDiff, reduceCtorEq, tp_frz, tp_fz, b0] <;> (try simp only [decide_eq_true_eq, decide_eq_false_iff_not, Bool.not_true] at h))
    | (with_reducible refine chk_in (by kernel_rfl) ?_)
    | (with_reducible refine And.intro (And.intro (by omega) (by omega)) ?_)
    | (with_reducible refine And.intro (by omega) ?_)
    | (refine ee_call rfl _ _ _ rfl (by assumption) (by omega) (memOf_free rfl) (fun es t2 ht2 hes => ?_))
    | (rw [get_in]; rotate_left; omega; simp only [go_sem, reduceIte, Nat.reduceLT, Nat.reduceEqDiff, Nat.reduceAdd, Nat.reduceMul, Nat.reduceSub, Nat.reduceLeDiff, reduceCtorEq, tp_frz, tp_fz, b0])
    | fail)
    refine aw_rounds (α := Nat) (fun i => ⟨envOf [(9, i64 i), (5, .row 101), (4, .box 102 0), (8, .row 103)], memOf [(101, .row 4 (erR l) true), (102, .cells (dlD d)), (103, .row 8 (eeR es) true)], 400⟩)
      (fun i => i ≤ es.length) (fun i => es.length - i) 0 (Nat.zero_le _) (weak_in [(101, 101), (102, 102), (103, _)] (by repeat' (first | trivial | constructor | rfl)) (by repeat' (first | trivial | constructor | rfl)) (by rfl) (by rfl) (by rfl)) ?_
    intro i hi
    cases hx : es[i]? with
    | none =>
      have hge : es.length ≤ i := by simpa using hx
      have hc : decide ((i : Int) < (es.length : Int)) = false := by simp <;> omega
      repeat' (first
    | (with_reducible refine aw_seq ?_)
    | (with_reducible refine kont_in ?_; simp only [go_sem, reduceIte, Nat.reduceLT, Nat.reduceEqDiff, Nat.reduceAdd, Nat.reduceMul, Nat.reduceSub, Nat.reduceLeDiff, reduceCtorEq, hc])
    | (with_reducible refine dKont_in ?_; simp only [go_sem, reduceIte, Nat.reduceLT, Nat.reduceEqDiff, Nat.reduceAdd, Nat.reduceMul, Nat.reduceSub, Nat.reduceLeDiff, reduceCtorEq, hc])
    | (with_reducible refine aw_drw (by kernel_rfl) hK2 hD ?_; simp only [go_sem, reduceIte, Nat.reduceLT, Nat.reduceEqDiff, Nat.reduceAdd, Nat.reduceMul, Nat.reduceSub, Nat.reduceLeDiff, reduceCtorEq, hc])
    | (with_reducible refine aw_reg hK ?_; simp only [go_sem, reduceIte, Nat.reduceLT, Nat.reduceEqDiff, Nat.reduceAdd, Nat.reduceMul, Nat.reduceSub, Nat.reduceLeDiff, reduceCtorEq, hc])
    | (with_reducible refine aw_if ?_; simp only [go_sem, reduceIte, Nat.reduceLT, Nat.reduceEqDiff, Nat.reduceAdd, Nat.reduceMul, Nat.reduceSub, Nat.reduceLeDiff, reduceCtorEq, hc])
    | (with_reducible refine aw_block ?_)
    | (with_reducible refine aw_ret ?_; (try simp only [thenQ, blockQ]); refine aw_ret' ?_; simp only [go_sem, reduceIte, Nat.reduceLT, Nat.reduceEqDiff, Nat.reduceAdd, Nat.reduceMul, Nat.reduceSub, Nat.reduceLeDiff, reduceCtorEq, hc])
    | (with_reducible refine aw_exit ?_; simp only [thenQ, blockQ, reduceIte, Nat.reduceEqDiff])
    | (with_reducible refine aw_skip ?_; simp only [thenQ, blockQ])
    | (with_reducible refine gate_intro (fun h => ?_) (fun h => ?_) <;> simp only [h, go_sem, reduceIte, Nat.reduceLT, Nat.reduceEqDiff, Nat.reduceAdd, Nat.reduceMul, Nat.reduceSub, Nat.reduceLeDiff, reduceCtorEq, hc] <;> (try simp only [decide_eq_true_eq, decide_eq_false_iff_not, Bool.not_true] at h))
    | (with_reducible refine chk_in (by kernel_rfl) ?_)
    | (with_reducible refine And.intro (And.intro (by omega) (by omega)) ?_)
    | (with_reducible refine And.intro (by omega) ?_)
    | (refine true_call rfl rfl ?_)
    | (rw [get_in]; rotate_left; omega; simp only [go_sem, reduceIte, Nat.reduceLT, Nat.reduceEqDiff, Nat.reduceAdd, Nat.reduceMul, Nat.reduceSub, Nat.reduceLeDiff, reduceCtorEq, hc])
    | fail)
    | some x =>
      have hlt : i < es.length := (List.getElem?_eq_some_iff.1 hx).1
      have hc : decide ((i : Int) < (es.length : Int)) = true := by simp <;> omega
      have hw := wrS (i := i) (by omega)
      have hal := applyR_len l d x
      repeat' (first
    | (with_reducible refine aw_seq ?_)
    | (with_reducible refine kont_in ?_; simp only [go_sem, reduceIte, Nat.reduceLT, Nat.reduceEqDiff, Nat.reduceAdd, Nat.reduceMul, Nat.reduceSub, Nat.reduceLeDiff, reduceCtorEq, hc, hw, hx, b0, s1, c1, eq_self])
    | (with_reducible refine dKont_in ?_; simp only [go_sem, reduceIte, Nat.reduceLT, Nat.reduceEqDiff, Nat.reduceAdd, Nat.reduceMul, Nat.reduceSub, Nat.reduceLeDiff, reduceCtorEq, hc, hw, hx, b0, s1, c1, eq_self])
    | (with_reducible refine aw_drw (by kernel_rfl) hK2 hD ?_; simp only [go_sem, reduceIte, Nat.reduceLT, Nat.reduceEqDiff, Nat.reduceAdd, Nat.reduceMul, Nat.reduceSub, Nat.reduceLeDiff, reduceCtorEq, hc, hw, hx, b0, s1, c1, eq_self])
    | (with_reducible refine aw_reg hK ?_; simp only [go_sem, reduceIte, Nat.reduceLT, Nat.reduceEqDiff, Nat.reduceAdd, Nat.reduceMul, Nat.reduceSub, Nat.reduceLeDiff, reduceCtorEq, hc, hw, hx, b0, s1, c1, eq_self])
    | (with_reducible refine aw_if ?_; simp only [go_sem, reduceIte, Nat.reduceLT, Nat.reduceEqDiff, Nat.reduceAdd, Nat.reduceMul, Nat.reduceSub, Nat.reduceLeDiff, reduceCtorEq, hc, hw, hx, b0, s1, c1, eq_self])
    | (with_reducible refine aw_block ?_)
    | (with_reducible refine aw_ret ?_; (try simp only [thenQ, blockQ]); refine aw_ret' ?_; simp only [go_sem, reduceIte, Nat.reduceLT, Nat.reduceEqDiff, Nat.reduceAdd, Nat.reduceMul, Nat.reduceSub, Nat.reduceLeDiff, reduceCtorEq, hc, hw, hx, b0, s1, c1, eq_self])
    | (with_reducible refine aw_exit ?_; simp only [thenQ, blockQ, reduceIte, Nat.reduceEqDiff])
    | (with_reducible refine aw_skip ?_; simp only [thenQ, blockQ])
    | (with_reducible refine gate_intro (fun h => ?_) (fun h => ?_) <;> simp only [h, go_sem, reduceIte, Nat.reduceLT, Nat.reduceEqDiff, Nat.reduceAdd, Nat.reduceMul, Nat.reduceSub, Nat.reduceLeDiff, reduceCtorEq, hc, hw, hx, b0, s1, c1, eq_self] <;> (try simp only [decide_eq_true_eq, decide_eq_false_iff_not, Bool.not_true] at h))
    | (with_reducible refine chk_in (by kernel_rfl) ?_)
    | (with_reducible refine And.intro (And.intro (by omega) (by omega)) ?_)
    | (with_reducible refine And.intro (by omega) ?_)
    | (refine ap_call rfl l d x rfl (by omega) (memOf_free rfl) ?_)
    | (refine sm_call rfl _ _ rfl rfl (by omega) rfl ?_)
    | (rw [get_in]; rotate_left; omega; simp only [go_sem, reduceIte, Nat.reduceLT, Nat.reduceEqDiff, Nat.reduceAdd, Nat.reduceMul, Nat.reduceSub, Nat.reduceLeDiff, reduceCtorEq, hc, hw, hx, b0, s1, c1, eq_self])
    | fail)
      · exact ⟨i + 1, weak_in [(101, 101), (102, 102), (103, 103)] (by repeat' (first | trivial | constructor | rfl)) (by repeat' (first | trivial | constructor | rfl)) (by rfl) (by rfl) (by rfl), hlt, by omega⟩
      · exfalso; simp at h
  · refine ⟨_, d, _, by assumption, ?_, weak_in [(101, _), (102, _), (103, _)] (by repeat' (first | trivial | constructor | rfl)) (by repeat' (first | trivial | constructor | rfl)) (by rfl) (by rfl) (by rfl)⟩
    simp <;> omega
  · refine ⟨_, d, _, by assumption, ?_, weak_in [(101, _), (102, _), (103, _)] (by repeat' (first | trivial | constructor | rfl)) (by repeat' (first | trivial | constructor | rfl)) (by rfl) (by rfl) (by rfl)⟩
    omega
  · refine ⟨_, d, _, by assumption, ?_, weak_in [(101, _), (102, _), (103, _)] (by repeat' (first | trivial | constructor | rfl)) (by repeat' (first | trivial | constructor | rfl)) (by rfl) (by rfl) (by rfl)⟩
    omega
end Go.Proofs.R1

/- What counts among events, as a condition on the set; in plain words. -/
set_option linter.unusedVariables false
set_option linter.unusedSimpArgs false
set_option linter.unusedSectionVars false
set_option maxRecDepth 8000
namespace Go.Proofs.R1
open Go Go.Abs
variable {α : Type} [DecidableEq α] [Inhabited α]

/-- The events that count, in order. -/
def cntE (st : α → St) (l : List α) : List α := (canF (l.map st) (clsI l)).map (at0 l)
/-- It counts: valid, and no other valid event bears its identity. -/
def CntE (st : α → St) (l : List α) (e : α) : Prop := e ∈ l ∧ valS (st e) = true ∧ ∀ f, f ∈ l → valS (st f) = true → idS (st f) = idS (st e) → f = e

theorem stAt_map {st : α → St} {l : List α} {i : Nat} {e : α} (h : l[i]? = some e) : stAt (l.map st) i = st e := by simp [stAt, h]
theorem ev_at {st : α → St} {l : List α} {i : Nat} {e : α} (h : l[i]? = some e) : ev (l.map st) (clsI l) i = (st e, ((clsN l i : Nat) : Int)) := by
  have hi := (List.getElem?_eq_some_iff.1 h).1
  unfold ev
  rw [stAt_map h, clsI_at hi]
theorem at0_of {l : List α} {i : Nat} {e : α} (h : l[i]? = some e) : at0 l i = e := by simp [at0, h]

theorem cnt_mem {st : α → St} {l : List α} {e : α} : e ∈ cntE st l ↔ CntE st l e := by
  have h0 : IsCanon (l.map st) (clsI l) (canF (l.map st) (clsI l)) := canF_is _ _
  obtain ⟨_, hmem⟩ := h0
  unfold cntE
  generalize canF (l.map st) (clsI l) = o at hmem ⊢
  rw [List.mem_map]
  constructor
  · rintro ⟨i, hi, rfl⟩
    obtain ⟨hlt, hc⟩ := (hmem i).1 hi
    rw [List.length_map] at hlt
    have hx := List.getElem?_eq_getElem hlt
    rw [at0_of hx]
    have hce := counts_ce (by rw [List.length_map]; exact hlt) hc
    rw [ev_at hx] at hce
    obtain ⟨_, hv, hall⟩ := hce
    refine ⟨List.getElem_mem hlt, hv, fun f hf hvf hid => ?_⟩
    obtain ⟨k, hk, hfk⟩ := List.getElem_of_mem hf
    have hy : l[k]? = some f := by rw [List.getElem?_eq_getElem hk, hfk]
    have := hall (ev (l.map st) (clsI l) k) ⟨k, by rw [List.length_map]; exact hk, rfl⟩ (by rw [ev_at hy]; exact hvf)
    rw [ev_at hy] at this
    obtain ⟨h1, h2⟩ := dispS_false this hid
    simp only at h2
    have h3 : clsN l k = clsN l i := by omega
    have h4 := (clsN_iff hk hlt).1 h3
    rw [hy, hx] at h4; exact Option.some.inj h4
  · rintro ⟨hm, hv, hall⟩
    obtain ⟨i0, hi0, he⟩ := List.getElem_of_mem hm
    have hx : l[i0]? = some e := by rw [List.getElem?_eq_getElem hi0, he]
    have hce : CE (l.map st) (clsI l) (st e, ((clsN l i0 : Nat) : Int)) := by
      refine ⟨⟨i0, by rw [List.length_map]; exact hi0, ev_at hx⟩, hv, ?_⟩
      rintro q ⟨k, hk, rfl⟩ hvq
      rw [List.length_map] at hk
      have hy := List.getElem?_eq_getElem hk
      rw [ev_at hy] at hvq ⊢
      refine dispS_no fun hid => ?_
      have hf := hall _ (List.getElem_mem hk) hvq hid
      rw [hf]
      refine ⟨rfl, ?_⟩
      have : clsN l k = clsN l i0 := (clsN_iff hk hi0).2 (by rw [hy, hx, hf])
      simp only; omega
    obtain ⟨i, hi, hc, hev⟩ := ce_counts hce
    have hlt : i < l.length := by rw [List.length_map] at hi; exact hi
    refine ⟨i, (hmem i).2 ⟨hi, hc⟩, ?_⟩
    have hy := List.getElem?_eq_getElem hlt
    rw [ev_at hy] at hev
    have h2 : ((clsN l i : Nat) : Int) = ((clsN l i0 : Nat) : Int) := congrArg Prod.snd hev
    have h3 := (clsN_iff hlt hi0).1 (by omega)
    rw [hx] at h3
    exact at0_of h3
theorem cnt_asc (st : α → St) (l : List α) : (cntE st l).Pairwise fun a b => cmpS (st a) (st b) < 0 := by
  have h0 : IsCanon (l.map st) (clsI l) (canF (l.map st) (clsI l)) := canF_is _ _
  unfold cntE
  generalize canF (l.map st) (clsI l) = o at h0 ⊢
  rw [List.pairwise_map]
  have h1 : o.Pairwise fun i j => cmpS (stAt (l.map st) i) (stAt (l.map st) j) < 0 := h0.1
  refine List.Pairwise.imp_of_mem (fun {i j} hi hj h => ?_) h1
  have e : ∀ k, k ∈ o → stAt (l.map st) k = st (at0 l k) := fun k hk => by
    have hlt := ((h0.2 k).1 hk).1
    rw [List.length_map] at hlt
    rw [stAt_map (List.getElem?_eq_getElem hlt), at0_of (List.getElem?_eq_getElem hlt)]
  rw [← e i hi, ← e j hj]; exact h
theorem cnt_is {st : α → St} {l o : List α} (hs : o.Pairwise fun a b => cmpS (st a) (st b) < 0) (hm : ∀ e, e ∈ o ↔ CntE st l e) : cntE st l = o :=
  asc_unique (lt := fun a b => cmpS (st a) (st b) < 0) (fun a => cmpS_irr _) (fun a b c h k => cmpS_trans h k) _ _ (cnt_asc st l) hs fun e => by rw [cnt_mem, hm]
/-- Only the set counts. -/
theorem cnt_congr {st : α → St} {l m : List α} (h : ∀ e, e ∈ l ↔ e ∈ m) : cntE st l = cntE st m :=
  cnt_is (cnt_asc st m) fun e => by
    rw [cnt_mem]
    constructor
    · rintro ⟨h1, h2, h3⟩; exact ⟨(h e).2 h1, h2, fun f hf => h3 f ((h f).1 hf)⟩
    · rintro ⟨h1, h2, h3⟩; exact ⟨(h e).1 h1, h2, fun f hf => h3 f ((h f).2 hf)⟩
theorem cnt_len (st : α → St) (l : List α) : (cntE st l).length ≤ l.length := by
  have := canF_len (l.map st) (clsI l)
  simpa [cntE] using this
/-- What counts, counts alone. -/
theorem cnt_twice (st : α → St) (l : List α) : cntE st (cntE st l) = cntE st l :=
  cnt_is (cnt_asc st l) fun e => by
    constructor
    · intro h
      obtain ⟨h1, h2, h3⟩ := cnt_mem.1 h
      exact ⟨h, h2, fun f hf => h3 f (cnt_mem.1 hf).1⟩
    · exact fun h => h.1
end Go.Proofs.R1

/- Entries: what the laws ask of the plain functions. -/
set_option linter.unusedVariables false
set_option linter.unusedSimpArgs false
set_option maxRecDepth 8000
set_option maxHeartbeats 2000000
namespace Go.Proofs.R1
open Go Go.Abs

theorem evR_small {l : List EE} (h : l.length ≤ 300) : evR l = (cntE (·.1) l, 0) := by
  have h1 := cnt_len (fun e : EE => e.1) l
  have h2 : (evF l).length = (cntE (fun e : EE => e.1) l).length := by simp [evF, cntE]
  unfold evR
  rw [if_neg (by omega)]; rfl
theorem foldR_eq {l : List EE} {d : Dl} {u : Int} (h : l.length ≤ 300) (hd : dlV d = true) : foldR l d u = ((foldL d ((cntE (fun e : EE => e.1) l).filter fun e => decide (e.1.1 ≤ u))).1, (foldL d ((cntE (fun e : EE => e.1) l).filter fun e => decide (e.1.1 ≤ u))).2, 0) := by
  rw [foldR, if_neg (by simp [hd]), evR_small h, if_neg (by simp)]
/-- Neither the order nor copies. -/
theorem foldR_any {l m : List EE} {d : Dl} {u : Int} (hl : l.length ≤ 300) (hm : m.length ≤ 300) (hd : dlV d = true) (h : ∀ e, e ∈ l ↔ e ∈ m) : foldR m d u = foldR l d u := by
  rw [foldR_eq hl hd, foldR_eq hm hd, cnt_congr h]
theorem foldR_va {l : List EE} {d : Dl} {u : Int} : vaL (foldR l d u).1 = true := by
  unfold foldR
  split
  · rfl
  split
  · rfl
  · exact foldL_va _ _
theorem late_no {l : List Er} {d : Dl} {e : EE} (h : d.2 < e.1.1) : (applyR l d e).2 ≠ 0 := by
  unfold applyR
  split
  · simp
  have hb : badE d e ≠ 0 := by
    unfold badE
    split
    · simp
    split
    · simp
    · simp [h]
  rw [if_pos hb]; exact hb
theorem foldl_late {d : Dl} : ∀ (es : List EE) (s : List Er × List Rf), (∀ e, e ∈ es → d.2 < e.1.1) → (es.foldl (stepR d) s).1 = s.1
  | [], s, _ => rfl
  | e :: es, s, h => by
    rw [List.foldl_cons, foldl_late es _ fun x hx => h x (List.mem_cons_of_mem _ hx)]
    unfold stepR
    rw [if_neg (late_no (h e List.mem_cons_self))]
theorem filt_split : ∀ {es : List EE} {u v : Int}, es.Pairwise (fun a b => a.1.1 ≤ b.1.1) → u ≤ v →
    es.filter (fun e => decide (e.1.1 ≤ v)) = es.filter (fun e => decide (e.1.1 ≤ u)) ++ es.filter (fun e => decide (u < e.1.1) && decide (e.1.1 ≤ v))
  | [], u, v, _, _ => rfl
  | e :: es, u, v, h, huv => by
    rw [List.pairwise_cons] at h
    by_cases he : e.1.1 ≤ u
    · rw [List.filter_cons_of_pos (by simp; omega), List.filter_cons_of_pos (by simpa using he), List.filter_cons_of_neg (by simp; omega), List.cons_append, filt_split h.2 huv]
    · have hn : (e :: es).filter (fun e => decide (e.1.1 ≤ u)) = [] := List.filter_eq_nil_iff.2 fun x hx => by
        rcases List.mem_cons.1 hx with rfl | hx
        · simpa using he
        · have := h.1 x hx; simp; omega
      rw [hn, List.nil_append]
      refine List.filter_congr fun x hx => ?_
      have : u < x.1.1 := by
        rcases List.mem_cons.1 hx with rfl | hx
        · omega
        · have := h.1 x hx; omega
      simp [this]
theorem cnt_times (l : List EE) : (cntE (fun e : EE => e.1) l).Pairwise fun a b => a.1.1 ≤ b.1.1 :=
  (cnt_asc (fun e : EE => e.1) l).imp fun {a b} h => by rw [cmpS_lt] at h; omega
/-- Behind the last deadline nothing changes. -/
theorem fold_close {l : List EE} {d : Dl} {v : Int} (hl : l.length ≤ 300) (hd : dlV d = true) (hv : 0 ≤ v) : (foldR l d (d.2 + v)).1 = (foldR l d d.2).1 := by
  rw [foldR_eq hl hd, foldR_eq hl hd, filt_split (u := d.2) (v := d.2 + v) (cnt_times l) (by omega)]
  simp only [foldL, List.foldl_append]
  exact foldl_late _ _ fun e he => by
    have := (List.mem_filter.1 he).2
    simp at this; exact this.1
theorem apply_soon {l : List Er} {d : Dl} {e : EE} (he : e.1.1 ≤ d.1) (hl : ∀ r, r ∈ l → r.2 = false) : ∀ r, r ∈ (applyR l d e).1 → r.2 = false := by
  unfold applyR
  split
  · simp
  split
  · simp
  unfold applyB
  cases ha : atE l e.2.2.1 with
  | some x =>
    simp only
    split
    · simp
    split
    · simp
    split
    · exact fun r hr => hl r ((outE_sub _ _).subset hr)
    · intro r hr
      rcases List.mem_or_eq_of_mem_set hr with hr | rfl
      · exact hl r hr
      · exact hl x (List.mem_of_getElem? (atE_some.1 ha).1)
  | none =>
    simp only
    split
    · simp
    split
    · simp
    · intro r hr
      rcases mem_insE.1 hr with hr | rfl
      · exact hl r hr
      · simp [apX]; omega
theorem foldl_soon {d : Dl} : ∀ (es : List EE) (s : List Er × List Rf), (∀ e, e ∈ es → e.1.1 ≤ d.1) → (∀ r, r ∈ s.1 → r.2 = false) → ∀ r, r ∈ (es.foldl (stepR d) s).1 → r.2 = false
  | [], s, _, hs => hs
  | e :: es, s, h, hs => by
    rw [List.foldl_cons]
    refine foldl_soon es _ (fun x hx => h x (List.mem_cons_of_mem _ hx)) ?_
    unfold stepR
    split
    · exact apply_soon (h e List.mem_cons_self) hs
    · exact hs
theorem fold_soon {l : List EE} {d : Dl} (hl : l.length ≤ 300) (hd : dlV d = true) : ∀ r, r ∈ (foldR l d d.1).1 → r.2 = false := by
  rw [foldR_eq hl hd]
  exact foldl_soon _ _ (fun e he => by have := (List.mem_filter.1 he).2; simpa using this) (by simp)
/-- Each one is found. -/
theorem fin_at {l : List Er} (hA : AscE l) {i : Nat} {r : Er} (hr : l[i]? = some r) : finE l r.1.1 r.1.2.2 = some r := by
  have hlt := (List.getElem?_eq_some_iff.1 hr).1
  have : fndE l r.1.1 r.1.2.2 = i := fndE_is (Nat.le_of_lt hlt) (fun k e hk he hh => by
    have := asc_lt hA hk he hr
    rw [cmpE_lt] at this; omega) (fun e he => by rw [hr] at he; cases he; exact ⟨rfl, rfl⟩)
  rw [finE, this]; exact hr
theorem fin_mem {l : List Er} (hA : AscE l) {r : Er} : finE l r.1.1 r.1.2.2 = some r ↔ r ∈ l := by
  constructor
  · intro h; exact List.mem_of_getElem? h
  · intro h
    obtain ⟨i, hi⟩ := List.getElem?_of_mem h
    exact fin_at hA hi
theorem split_at {l : List Er} (hA : AscE l) {p : Nat} {r : Er} (hr : l[p]? = some r) : l = l.take p ++ r :: l.drop (p + 1) ∧ ∀ x, x ∈ l.take p ∨ x ∈ l.drop (p + 1) → cmpE x.1 r.1 ≠ 0 := by
  obtain ⟨hp, rfl⟩ := List.getElem?_eq_some_iff.1 hr
  refine ⟨by rw [List.getElem_cons_drop, List.take_append_drop], ?_⟩
  rintro x (hx | hx) h0
  · obtain ⟨k, hk⟩ := List.getElem?_of_mem hx
    rw [List.getElem?_take] at hk
    split at hk
    · rename_i hk'
      have := asc_lt hA hk' hk hr
      rw [cmpE_lt] at this; rw [cmpE_eq] at h0; omega
    · cases hk
  · obtain ⟨k, hk⟩ := List.getElem?_of_mem hx
    rw [List.getElem?_drop] at hk
    have := asc_lt hA (by omega) hr hk
    rw [cmpE_lt] at this; rw [cmpE_eq] at h0; omega
def goneE (l m : List Er) : List Er := l.filter fun r => decide (r ∉ m)
theorem goneE_sub {l m : List Er} (h : ∀ r, r ∈ l → r ∈ m) : goneE l m = [] := List.filter_eq_nil_iff.2 fun r hr => by simpa using h r hr
theorem goneE_one {a b m : List Er} {r : Er} (ha : ∀ x, x ∈ a ∨ x ∈ b → x ∈ m) (hr : r ∉ m) : goneE (a ++ r :: b) m = [r] := by
  unfold goneE
  rw [List.filter_append, List.filter_cons_of_pos (by simpa using hr), List.filter_eq_nil_iff.2 fun x hx => by simpa using ha x (.inl hx), List.filter_eq_nil_iff.2 fun x hx => by simpa using ha x (.inr hx)]
  rfl
theorem own_facts {l m : List Er} {d : Dl} {e : EE} (h : applyR l d e = (m, 0)) :
    ((e.2.1 = 1 ∧ (goneE l m).length = 0 ∧ (goneE m l).length = 1) ∨ (e.2.1 = 2 ∧ (goneE l m).length = 1 ∧ (goneE m l).length = 0) ∨ (e.2.1 = 3 ∧ (goneE l m).length = 1 ∧ (goneE m l).length = 1)) ∧
    ∀ r, r ∈ l → r ∉ m → e.1.2.1 = 0 ∨ e.1.2.1 = r.1.2.1 := by
  have hv := (apply_valid h).1
  have hA := (vaL_iff.1 hv).2.2
  unfold applyR at h
  split at h
  · simp at h
  split at h
  · rename_i h2; simp only [Prod.mk.injEq] at h; exact absurd h.2 h2
  rename_i h2
  have hb : badE d e = 0 := by omega
  have hb1 : ¬(e.2.1 < 1 ∨ 3 < e.2.1 ∨ enV e.2.2.1 = false ∨ e.2.1 = 3 ∧ (ceV e.2.2.2 = false ∨ e.2.2.2 = e.2.2.1.2.1)) := fun hh => by
    unfold badE at hb; rw [if_pos hh] at hb; simp at hb
  have hb2 : ¬(e.1.2.1 ≠ 0 ∧ e.1.2.1 ≠ e.2.2.1.2.1) := fun hh => by
    unfold badE at hb; rw [if_neg hb1, if_pos hh] at hb; simp at hb
  have hkd : e.2.1 = 1 ∨ e.2.1 = 2 ∨ e.2.1 = 3 := by omega
  unfold applyB at h
  cases ha : atE l e.2.2.1 with
  | some r =>
    simp only [ha] at h
    obtain ⟨hr, h0⟩ := atE_some.1 ha
    obtain ⟨hsp, hne⟩ := split_at hA hr
    split at h
    · split at h <;> simp at h
    rename_i hk1
    split at h
    · simp at h
    rename_i hce
    have hce : r.1.2.1 = e.2.2.1.2.1 := by simpa using hce
    have hself : cmpE r.1 r.1 = 0 := by rw [cmpE_eq]; exact ⟨rfl, rfl⟩
    split at h
    · rename_i hk2
      simp only [Prod.mk.injEq, and_true] at h
      subst h
      have hrm : r ∉ outE l (posE l e.2.2.1) := fun hm => by
        rcases List.mem_append.1 hm with hm | hm
        · exact hne r (.inl hm) hself
        · exact hne r (.inr hm) hself
      have hg : goneE l (outE l (posE l e.2.2.1)) = [r] := by
        conv => lhs; arg 1; rw [hsp]
        exact goneE_one (fun x hx => by unfold outE; rw [List.mem_append]; exact hx) hrm
      refine ⟨.inr (.inl ⟨hk2, by rw [hg]; rfl, by rw [goneE_sub fun x hx => (outE_sub _ _).subset hx]; rfl⟩), fun x hx hxm => ?_⟩
      have : x ∈ goneE l (outE l (posE l e.2.2.1)) := List.mem_filter.2 ⟨hx, by simpa using hxm⟩
      rw [hg, List.mem_singleton] at this
      subst this; rw [hce]; omega
    · rename_i hk2
      simp only [Prod.mk.injEq, and_true] at h
      have hk3 : e.2.1 = 3 := by omega
      have hto : e.2.2.2 ≠ e.2.2.1.2.1 := fun hh => hb1 (.inr (.inr (.inr ⟨hk3, .inr hh⟩)))
      have hset : m = l.take (posE l e.2.2.1) ++ modE r e.2.2.2 :: l.drop (posE l e.2.2.1 + 1) := by
        rw [← h]
        obtain ⟨hp, _⟩ := List.getElem?_eq_some_iff.1 hr
        rw [List.set_eq_take_append_cons_drop, if_pos hp]
      have hmr : modE r e.2.2.2 ≠ r := fun hh => by
        have := congrArg (fun x : Er => x.1.2.1) hh
        simp only [modE] at this
        exact hto (by rw [this, hce])
      have hkey : cmpE (modE r e.2.2.2).1 r.1 = 0 := by rw [cmpE_eq]; exact ⟨rfl, rfl⟩
      have hrm : r ∉ m := fun hm => by
        rw [hset] at hm
        rcases List.mem_append.1 hm with hm | hm
        · exact hne r (.inl hm) hself
        · rcases List.mem_cons.1 hm with hm | hm
          · exact hmr hm.symm
          · exact hne r (.inr hm) hself
      have hrl : modE r e.2.2.2 ∉ l := fun hm => by
        rw [hsp] at hm
        rcases List.mem_append.1 hm with hm | hm
        · exact hne _ (.inl hm) hkey
        · rcases List.mem_cons.1 hm with hm | hm
          · exact hmr hm
          · exact hne _ (.inr hm) hkey
      have hg : goneE l m = [r] := by
        conv => lhs; arg 1; rw [hsp]
        exact goneE_one (fun x hx => by rw [hset, List.mem_append, List.mem_cons]; rcases hx with hx | hx <;> simp [hx]) hrm
      have hc : goneE m l = [modE r e.2.2.2] := by
        conv => lhs; arg 1; rw [hset]
        exact goneE_one (fun x hx => by rw [hsp, List.mem_append, List.mem_cons]; rcases hx with hx | hx <;> simp [hx]) hrl
      refine ⟨.inr (.inr ⟨hk3, by rw [hg]; rfl, by rw [hc]; rfl⟩), fun x hx hxm => ?_⟩
      have : x ∈ goneE l m := List.mem_filter.2 ⟨hx, by simpa using hxm⟩
      rw [hg, List.mem_singleton] at this
      subst this; rw [hce]; omega
  | none =>
    simp only [ha] at h
    split at h
    · simp at h
    rename_i hk1
    have hk1 : e.2.1 = 1 := by simpa using hk1
    split at h
    · simp at h
    simp only [Prod.mk.injEq, and_true] at h
    subst h
    have hsub : ∀ r, r ∈ l → r ∈ insE l (apX d e) := fun r hr => mem_insE.2 (.inl hr)
    have hx : apX d e ∉ l := fun hm => atE_none hA ha hm (by rw [cmpE_eq]; exact ⟨rfl, rfl⟩)
    have hc : goneE (insE l (apX d e)) l = [apX d e] := by
      unfold insE
      rw [List.append_assoc, List.singleton_append]
      exact goneE_one (fun x hx => by rcases hx with hx | hx; exact List.mem_of_mem_take hx; exact List.mem_of_mem_drop hx) hx
    exact ⟨.inl ⟨hk1, by rw [goneE_sub hsub]; rfl, by rw [hc]; rfl⟩, fun r hr hrm => absurd (hsub r hr) hrm⟩
end Go.Proofs.R1

/- Entries: the law Once. -/
set_option linter.unusedVariables false
set_option linter.unusedSimpArgs false
set_option maxRecDepth 8000
set_option maxHeartbeats 8000000
namespace Go.Proofs.R1
open Go Go.Abs

theorem eeC_wild : ∀ a : eeC.α, eeC.pre a → (∃ r, eeC.post a r) ∧ ∀ r, eeC.post a r → r.ret.length ≤ 4 := by
  rintro ⟨t, most, n⟩ ⟨h1, h2, h3⟩
  simp only at h2
  exact ⟨⟨_, [], newT [], newT_ok [], by simp; omega, rfl⟩, by rintro r ⟨l, t', _, _, rfl⟩; simp⟩
theorem fi_call {K : Kt} (hk : K 30 = some fiC) {np fid : Nat} {M : Mem} {nx : D → Mem → Prop} (l : List Er) (c p : Int) {x : D} (hx : fz M true 4 x = some (.sl 4 (erR l))) (hp : l.length ≤ 1000000) (hf : ∀ j, M (fid + j) = none)
    (hn : nx (.tup [.agg (erD ((finE l c p).getD ((0, 0, 0), false))), bl (finE l c p).isSome]) M) : semCall K np 30 [x, i64 c, i64 p] M fid nx :=
  call_clR hk rfl rfl (l, c, p) (by simp only [argsV, mapO, hx]; rfl) hp hf (by rintro r rfl; exact hn)
theorem erD_g0 (r : Er) : (erD r)[0]? = some (i64 r.1.1) := rfl
theorem erD_g1 (r : Er) : (erD r)[1]? = some (i64 r.1.2.1) := rfl
theorem erD_g2 (r : Er) : (erD r)[2]? = some (i64 r.1.2.2) := rfl
theorem eOnce_ok : CallOk Try.prog 9 canLaw4C := by
  refine ok_of_body' 104 1 Try.func9 rfl (by decide) Try.ntmps9 (by intro a h; exact ⟨rfl, rfl⟩) (by decide) (by rintro _ a r _ rfl; rfl) ?_
  rintro tl h1
  simp only [lawC] at h1 ⊢
  simp only [initE, initMm, List.length_cons, List.length_nil, Nat.reduceAdd]
  have hK : KOk Try.prog (kOf [(12, newC), (19, deadC), (18, trueC)]) := kOk_cons new_ok (kOk_cons dead_ok (kOk_cons eAwk_ok kOk_nil))
  have hK2 : KOk Try.prog (kOf [(13, eeC), (26, foC), (30, fiC), (31, enC)]) := kOk_cons ee_ok (kOk_cons fo_ok (kOk_cons fi_ok (kOk_cons enR_ok kOk_nil)))
  have hD : KDet (kOf [(13, eeC), (26, foC), (30, fiC), (31, enC)]) := kDet_wild eeC_wild (kDet_cons (fun _ _ => ⟨_, rfl, by simp, fun _ h => h⟩) (kDet_cons (fun _ _ => ⟨_, rfl, by simp, fun _ h => h⟩) (kDet_cons (fun _ _ => ⟨_, rfl, by simp, fun _ h => h⟩) kDet_nil)))
  have s1 : eeC.srt = none := rfl
  have c1 : eeC.clean = false := rfl
  have i1 : eeC.kinds = [true, false, false] := rfl
  have s2 : foC.srt = none := rfl
  have c2 : foC.clean = true := rfl
  have s3 : fiC.srt = none := rfl
  have c3 : fiC.clean = true := rfl
  have s4 : enC.srt = none := rfl
  have c4 : enC.clean = true := rfl
  have b0 : ((0 : Int) == 0) = true := rfl
  repeat' (first
    | (with_reducible refine aw_seq ?_)
    | (with_reducible refine kont_in ?_; simp only [go_sem, reduceIte, Nat.reduceLT, Nat.reduceEqDiff, Nat.reduceAdd, Nat.reduceMul, Nat.reduceSub, Nat.reduceLeDiff, reduceCtorEq, tp_frz, tp_fz, s1, c1, i1, s2, c2])
    | (with_reducible refine dKont_in ?_; simp only [go_sem, reduceIte, Nat.reduceLT, Nat.reduceEqDiff, Nat.reduceAdd, Nat.reduceMul, Nat.reduceSub, Nat.reduceLeDiff, reduceCtorEq, tp_frz, tp_fz, s1, c1, i1, s2, c2])
    | (with_reducible refine aw_drw (by kernel_rfl) hK2 hD ?_; simp only [go_sem, reduceIte, Nat.reduceLT, Nat.reduceEqDiff, Nat.reduceAdd, Nat.reduceMul, Nat.reduceSub, Nat.reduceLeDiff, reduceCtorEq, tp_frz, tp_fz, s1, c1, i1, s2, c2])
    | (with_reducible refine aw_reg hK ?_; simp only [go_sem, reduceIte, Nat.reduceLT, Nat.reduceEqDiff, Nat.reduceAdd, Nat.reduceMul, Nat.reduceSub, Nat.reduceLeDiff, reduceCtorEq, tp_frz, tp_fz, s1, c1, i1, s2, c2])
    | (with_reducible refine aw_if ?_; simp only [go_sem, reduceIte, Nat.reduceLT, Nat.reduceEqDiff, Nat.reduceAdd, Nat.reduceMul, Nat.reduceSub, Nat.reduceLeDiff, reduceCtorEq, tp_frz, tp_fz, s1, c1, i1, s2, c2])
    | (with_reducible refine aw_block ?_)
    | (with_reducible refine aw_ret ?_; (try simp only [thenQ, blockQ]); refine aw_ret' ?_; simp only [go_sem, reduceIte, Nat.reduceLT, Nat.reduceEqDiff, Nat.reduceAdd, Nat.reduceMul, Nat.reduceSub, Nat.reduceLeDiff, reduceCtorEq, tp_frz, tp_fz, s1, c1, i1, s2, c2])
    | (with_reducible refine aw_exit ?_; simp only [thenQ, blockQ, reduceIte, Nat.reduceEqDiff])
    | (with_reducible refine aw_skip ?_; simp only [thenQ, blockQ])
    | (with_reducible refine gate_intro (fun h => ?_) (fun h => ?_) <;> simp only [h, go_sem, reduceIte, Nat.reduceLT, Nat.reduceEqDiff, Nat.reduceAdd, Nat.reduceMul, Nat.reduceSub, Nat.reduceLeDiff, reduceCtorEq, tp_frz, tp_fz, s1, c1, i1, s2, c2] <;> (try simp only [decide_eq_true_eq, decide_eq_false_iff_not, Bool.not_true] at h))
    | (with_reducible refine chk_in (by kernel_rfl) ?_)
    | (with_reducible refine And.intro (And.intro (by omega) (by omega)) ?_)
    | (with_reducible refine And.intro (by omega) ?_)
    | (refine new_call rfl tl h1 (memOf_free rfl) (fun t ht => ?_))
    | (refine dead_call rfl _ _ rfl (by assumption) (by omega) (memOf_free rfl) (fun d t1 ht1 hd => ?_))
    | (refine ee_call rfl _ _ _ rfl (by assumption) (by omega) (memOf_free rfl) (fun l t2 ht2 hl => ?_))
    | (refine true_call rfl rfl ?_)
    | (refine fo_call rfl l d _ rfl rfl (by omega) (memOf_free rfl) (fun hf1 hf2 => ?_))
    | (rw [get_in]; rotate_left; omega; simp only [go_sem, reduceIte, Nat.reduceLT, Nat.reduceEqDiff, Nat.reduceAdd, Nat.reduceMul, Nat.reduceSub, Nat.reduceLeDiff, reduceCtorEq, tp_frz, tp_fz, s1, c1, i1, s2, c2])
    | fail)
  have hdl : dlV d = true := by have := hd rfl; simp [dlV]; omega
  have hok : (foldR l d 1000000).2.2 = 0 := by rw [foldR_eq (by omega) hdl]
  have hva : vaL (foldR l d 1000000).1 = true := foldR_va
  rw [hok]
  generalize (foldR l d 1000000).1 = a at *
  have hA := (vaL_iff.1 hva).2.2
  refine aw_rounds (α := Nat) (fun i => ⟨envOf [(8, i64 i), (7, i64 0), (5, .row 101)], memOf [(101, .row 4 (erR a) true)], 400⟩)
    (fun i => i ≤ a.length) (fun i => a.length - i) 0 (Nat.zero_le _) (weak_in [(101, 45)] (by repeat' (first | trivial | constructor | rfl)) (by repeat' (first | trivial | constructor | rfl)) (by rfl) (by rfl) (by rfl)) ?_
  intro i hi
  cases hx : a[i]? with
  | none =>
    have hge : a.length ≤ i := by simpa using hx
    have hc : decide ((i : Int) < (a.length : Int)) = false := by simp <;> omega
    repeat' (first
    | (with_reducible refine aw_seq ?_)
    | (with_reducible refine kont_in ?_; simp only [go_sem, reduceIte, Nat.reduceLT, Nat.reduceEqDiff, Nat.reduceAdd, Nat.reduceMul, Nat.reduceSub, Nat.reduceLeDiff, reduceCtorEq, hc, b0])
    | (with_reducible refine dKont_in ?_; simp only [go_sem, reduceIte, Nat.reduceLT, Nat.reduceEqDiff, Nat.reduceAdd, Nat.reduceMul, Nat.reduceSub, Nat.reduceLeDiff, reduceCtorEq, hc, b0])
    | (with_reducible refine aw_drw (by kernel_rfl) kOk_nil kDet_nil ?_; simp only [go_sem, reduceIte, Nat.reduceLT, Nat.reduceEqDiff, Nat.reduceAdd, Nat.reduceMul, Nat.reduceSub, Nat.reduceLeDiff, reduceCtorEq, hc, b0])
    | (with_reducible refine aw_reg hK ?_; simp only [go_sem, reduceIte, Nat.reduceLT, Nat.reduceEqDiff, Nat.reduceAdd, Nat.reduceMul, Nat.reduceSub, Nat.reduceLeDiff, reduceCtorEq, hc, b0])
    | (with_reducible refine aw_if ?_; simp only [go_sem, reduceIte, Nat.reduceLT, Nat.reduceEqDiff, Nat.reduceAdd, Nat.reduceMul, Nat.reduceSub, Nat.reduceLeDiff, reduceCtorEq, hc, b0])
    | (with_reducible refine aw_block ?_)
    | (with_reducible refine aw_ret ?_; (try simp only [thenQ, blockQ]); refine aw_ret' ?_; simp only [go_sem, reduceIte, Nat.reduceLT, Nat.reduceEqDiff, Nat.reduceAdd, Nat.reduceMul, Nat.reduceSub, Nat.reduceLeDiff, reduceCtorEq, hc, b0])
    | (with_reducible refine aw_exit ?_; simp only [thenQ, blockQ, reduceIte, Nat.reduceEqDiff])
    | (with_reducible refine aw_skip ?_; simp only [thenQ, blockQ])
    | (with_reducible refine gate_intro (fun h => ?_) (fun h => ?_) <;> simp only [h, go_sem, reduceIte, Nat.reduceLT, Nat.reduceEqDiff, Nat.reduceAdd, Nat.reduceMul, Nat.reduceSub, Nat.reduceLeDiff, reduceCtorEq, hc, b0] <;> (try simp only [decide_eq_true_eq, decide_eq_false_iff_not, Bool.not_true] at h))
    | (with_reducible refine chk_in (by kernel_rfl) ?_)
    | (with_reducible refine And.intro (And.intro (by omega) (by omega)) ?_)
    | (with_reducible refine And.intro (by omega) ?_)
    | (refine true_call rfl rfl ?_)
    | (rw [get_in]; rotate_left; omega; simp only [go_sem, reduceIte, Nat.reduceLT, Nat.reduceEqDiff, Nat.reduceAdd, Nat.reduceMul, Nat.reduceSub, Nat.reduceLeDiff, reduceCtorEq, hc, b0])
    | fail)
  | some x =>
    have hlt : i < a.length := (List.getElem?_eq_some_iff.1 hx).1
    have hc : decide ((i : Int) < (a.length : Int)) = true := by simp <;> omega
    have hw := wrS (i := i) (by omega)
    have hw1 : IntKind.i64.wrap ((i : Int) - 1) = (i : Int) - 1 := wr64 (by omega) (by omega)
    have hfi := fin_at hA hx
    have hen : enV x.1 = true := (vaL_iff.1 hva).2.1 x (List.mem_of_getElem? hx)
    have hg : (some x).getD ((0, 0, 0), false) = x := rfl
    have q := erD_eqc x x
    cases i with
    | zero =>
      have h0 : decide (((0 : Nat) : Int) > 0) = false := rfl
      repeat' (first
    | (with_reducible refine aw_seq ?_)
    | (with_reducible refine kont_in ?_; simp only [go_sem, reduceIte, Nat.reduceLT, Nat.reduceEqDiff, Nat.reduceAdd, Nat.reduceMul, Nat.reduceSub, Nat.reduceLeDiff, reduceCtorEq, hc, hw, hw1, hx, h0, hfi, hen, hg, erD_g0, erD_g2, erD_eqc, eq_self, decide_true, s3, c3, s4, c4])
    | (with_reducible refine dKont_in ?_; simp only [go_sem, reduceIte, Nat.reduceLT, Nat.reduceEqDiff, Nat.reduceAdd, Nat.reduceMul, Nat.reduceSub, Nat.reduceLeDiff, reduceCtorEq, hc, hw, hw1, hx, h0, hfi, hen, hg, erD_g0, erD_g2, erD_eqc, eq_self, decide_true, s3, c3, s4, c4])
    | (with_reducible refine aw_drw (by kernel_rfl) hK2 hD ?_; simp only [go_sem, reduceIte, Nat.reduceLT, Nat.reduceEqDiff, Nat.reduceAdd, Nat.reduceMul, Nat.reduceSub, Nat.reduceLeDiff, reduceCtorEq, hc, hw, hw1, hx, h0, hfi, hen, hg, erD_g0, erD_g2, erD_eqc, eq_self, decide_true, s3, c3, s4, c4])
    | (with_reducible refine aw_reg hK ?_; simp only [go_sem, reduceIte, Nat.reduceLT, Nat.reduceEqDiff, Nat.reduceAdd, Nat.reduceMul, Nat.reduceSub, Nat.reduceLeDiff, reduceCtorEq, hc, hw, hw1, hx, h0, hfi, hen, hg, erD_g0, erD_g2, erD_eqc, eq_self, decide_true, s3, c3, s4, c4])
    | (with_reducible refine aw_if ?_; simp only [go_sem, reduceIte, Nat.reduceLT, Nat.reduceEqDiff, Nat.reduceAdd, Nat.reduceMul, Nat.reduceSub, Nat.reduceLeDiff, reduceCtorEq, hc, hw, hw1, hx, h0, hfi, hen, hg, erD_g0, erD_g2, erD_eqc, eq_self, decide_true, s3, c3, s4, c4])
    | (with_reducible refine aw_block ?_)
    | (with_reducible refine aw_ret ?_; (try simp only [thenQ, blockQ]); refine aw_ret' ?_; simp only [go_sem, reduceIte, Nat.reduceLT, Nat.reduceEqDiff, Nat.reduceAdd, Nat.reduceMul, Nat.reduceSub, Nat.reduceLeDiff, reduceCtorEq, hc, hw, hw1, hx, h0, hfi, hen, hg, erD_g0, erD_g2, erD_eqc, eq_self, decide_true, s3, c3, s4, c4])
    | (with_reducible refine aw_exit ?_; simp only [thenQ, blockQ, reduceIte, Nat.reduceEqDiff])
    | (with_reducible refine aw_skip ?_; simp only [thenQ, blockQ])
    | (with_reducible refine gate_intro (fun h => ?_) (fun h => ?_) <;> simp only [h, go_sem, reduceIte, Nat.reduceLT, Nat.reduceEqDiff, Nat.reduceAdd, Nat.reduceMul, Nat.reduceSub, Nat.reduceLeDiff, reduceCtorEq, hc, hw, hw1, hx, h0, hfi, hen, hg, erD_g0, erD_g2, erD_eqc, eq_self, decide_true, s3, c3, s4, c4] <;> (try simp only [decide_eq_true_eq, decide_eq_false_iff_not, Bool.not_true] at h))
    | (with_reducible refine chk_in (by kernel_rfl) ?_)
    | (with_reducible refine And.intro (And.intro (by omega) (by omega)) ?_)
    | (with_reducible refine And.intro (by omega) ?_)
    | (refine fi_call rfl a x.1.1 x.1.2.2 rfl (by omega) (memOf_free rfl) ?_)
    | (refine enR_call rfl x.1 rfl ?_)
    | (rw [get_in]; rotate_left; omega; simp only [go_sem, reduceIte, Nat.reduceLT, Nat.reduceEqDiff, Nat.reduceAdd, Nat.reduceMul, Nat.reduceSub, Nat.reduceLeDiff, reduceCtorEq, hc, hw, hw1, hx, h0, hfi, hen, hg, erD_g0, erD_g2, erD_eqc, eq_self, decide_true, s3, c3, s4, c4])
    | fail)
      exact ⟨1, weak_in [(101, 101)] (by repeat' (first | trivial | constructor | rfl)) (by repeat' (first | trivial | constructor | rfl)) (by rfl) (by rfl) (by rfl), hlt, by omega⟩
    | succ i =>
      have h0 : decide (((i + 1 : Nat) : Int) > 0) = true := by simp <;> omega
      obtain ⟨y, hy⟩ : ∃ y, a[i]? = some y := ⟨_, List.getElem?_eq_getElem (by omega)⟩
      have hm0 : (((i + 1 : Nat) : Int) - 1) = (i : Int) := by omega
      simp only [hm0] at hw1
      have hyx := asc_lt hA (Nat.lt_succ_self i) hy hx
      rw [cmpE_lt] at hyx
      obtain ⟨⟨x1, x2, x3⟩, x4⟩ := x
      obtain ⟨⟨y1, y2, y3⟩, y4⟩ := y
      simp only [erD, decide_true, eq_self] at q hfi hen hyx
      repeat' (first
    | (with_reducible refine aw_seq ?_)
    | (with_reducible refine kont_in ?_; simp only [go_sem, reduceIte, Nat.reduceLT, Nat.reduceEqDiff, Nat.reduceAdd, Nat.reduceMul, Nat.reduceSub, Nat.reduceLeDiff, reduceCtorEq, hc, hw, hm0, hw1, hx, hy, h0, hfi, hen, hg, q, erD, s3, c3, s4, c4])
    | (with_reducible refine dKont_in ?_; simp only [go_sem, reduceIte, Nat.reduceLT, Nat.reduceEqDiff, Nat.reduceAdd, Nat.reduceMul, Nat.reduceSub, Nat.reduceLeDiff, reduceCtorEq, hc, hw, hm0, hw1, hx, hy, h0, hfi, hen, hg, q, erD, s3, c3, s4, c4])
    | (with_reducible refine aw_drw (by kernel_rfl) hK2 hD ?_; simp only [go_sem, reduceIte, Nat.reduceLT, Nat.reduceEqDiff, Nat.reduceAdd, Nat.reduceMul, Nat.reduceSub, Nat.reduceLeDiff, reduceCtorEq, hc, hw, hm0, hw1, hx, hy, h0, hfi, hen, hg, q, erD, s3, c3, s4, c4])
    | (with_reducible refine aw_reg hK ?_; simp only [go_sem, reduceIte, Nat.reduceLT, Nat.reduceEqDiff, Nat.reduceAdd, Nat.reduceMul, Nat.reduceSub, Nat.reduceLeDiff, reduceCtorEq, hc, hw, hm0, hw1, hx, hy, h0, hfi, hen, hg, q, erD, s3, c3, s4, c4])
    | (with_reducible refine aw_if ?_; simp only [go_sem, reduceIte, Nat.reduceLT, Nat.reduceEqDiff, Nat.reduceAdd, Nat.reduceMul, Nat.reduceSub, Nat.reduceLeDiff, reduceCtorEq, hc, hw, hm0, hw1, hx, hy, h0, hfi, hen, hg, q, erD, s3, c3, s4, c4])
    | (with_reducible refine aw_block ?_)
    | (with_reducible refine aw_ret ?_; (try simp only [thenQ, blockQ]); refine aw_ret' ?_; simp only [go_sem, reduceIte, Nat.reduceLT, Nat.reduceEqDiff, Nat.reduceAdd, Nat.reduceMul, Nat.reduceSub, Nat.reduceLeDiff, reduceCtorEq, hc, hw, hm0, hw1, hx, hy, h0, hfi, hen, hg, q, erD, s3, c3, s4, c4])
    | (with_reducible refine aw_exit ?_; simp only [thenQ, blockQ, reduceIte, Nat.reduceEqDiff])
    | (with_reducible refine aw_skip ?_; simp only [thenQ, blockQ])
    | (with_reducible refine gate_intro (fun h => ?_) (fun h => ?_) <;> simp only [h, go_sem, reduceIte, Nat.reduceLT, Nat.reduceEqDiff, Nat.reduceAdd, Nat.reduceMul, Nat.reduceSub, Nat.reduceLeDiff, reduceCtorEq, hc, hw, hm0, hw1, hx, hy, h0, hfi, hen, hg, q, erD, s3, c3, s4, c4] <;> (try simp only [decide_eq_true_eq, decide_eq_false_iff_not, Bool.not_true] at h))
    | (with_reducible refine chk_in (by kernel_rfl) ?_)
    | (with_reducible refine And.intro (And.intro (by omega) (by omega)) ?_)
    | (with_reducible refine And.intro (by omega) ?_)
    | (refine fi_call rfl a x1 x3 rfl (by omega) (memOf_free rfl) ?_)
    | (refine enR_call rfl (x1, x2, x3) rfl ?_)
    | (rw [get_in]; rotate_left; omega; simp only [go_sem, reduceIte, Nat.reduceLT, Nat.reduceEqDiff, Nat.reduceAdd, Nat.reduceMul, Nat.reduceSub, Nat.reduceLeDiff, reduceCtorEq, hc, hw, hm0, hw1, hx, hy, h0, hfi, hen, hg, q, erD, s3, c3, s4, c4])
    | fail)
      all_goals first
        | exact ⟨i + 1 + 1, weak_in [(101, 101)] (by repeat' (first | trivial | constructor | rfl)) (by repeat' (first | trivial | constructor | rfl)) (by rfl) (by rfl) (by rfl), hlt, by omega⟩
        | (exfalso; simp only [beq_iff_eq] at *; omega)
        | (exfalso; simp at h; omega)
end Go.Proofs.R1

/- The abstract machine: an argument of plain data, slices of structs among it, as the rules see it. -/
set_option linter.unusedVariables false
set_option linter.unusedSimpArgs false
namespace Go.Abs
open Go Go.ChangeShapes Go.WideShapes Go.ChangeAt Go.RowKit

/-- The cells of a type. -/
inductive Cs where
  | int (k : IntKind)
  | bool
  | str
  | sl (e : List Cs)

mutual
inductive TyC (P : Program) : TypeId → List Cs → Prop
  | int (t : TypeId) (k : IntKind) (h : P.underlying t = some (.int k)) : TyC P t [.int k]
  | bool (t : TypeId) (h : P.underlying t = some .bool) : TyC P t [.bool]
  | str (t : TypeId) (h : P.underlying t = some .string) : TyC P t [.str]
  | sl (t e : TypeId) (cs : List Cs) (h : P.underlying t = some (.slice e)) (he : TyC P e cs) (hc : P.cellsOf e = cs.length) (hp : 0 < cs.length) : TyC P t [.sl cs]
  | st (t : TypeId) (fs : Array Field) (cs : List Cs) (h : P.underlying t = some (.struct fs)) (hf : TyF P fs.toList 0 cs) (hc : P.cellsOf t = cs.length) : TyC P t cs
inductive TyF (P : Program) : List Field → Nat → List Cs → Prop
  | nil (o : Nat) : TyF P [] o []
  | cons (f : Field) (l : List Field) (o : Nat) (c r : List Cs) (ho : f.offset = o) (hc : TyC P f.type c) (hs : P.cellsOf f.type = c.length) (hr : TyF P l (o + c.length) r) : TyF P (f :: l) o (c ++ r)
end

/-- Data of such cells. -/
inductive Fit : Cs → D → Prop
  | int (k : IntKind) (n : Int) (h : (Lit.int k n).wf = true) : Fit (.int k) (.v (.int k n))
  | bool (b : Bool) : Fit .bool (.v (.bool b))
  | str (s : ByteArray) (h : s.size ≤ maxLen) : Fit .str (.v (.string s))
  | sl (cs : List Cs) (es : List (List D)) (hn : es.length ≤ maxLen) (hl : ∀ e, e ∈ es → e.length = cs.length) (h : ∀ (i : Nat) e (j : Nat) c d, es[i]? = some e → cs[j]? = some c → e[j]? = some d → Fit c d) : Fit (.sl cs) (.sl cs.length es)
def FitL (cs : List Cs) (ds : List D) : Prop := ds.length = cs.length ∧ ∀ (i : Nat) c d, cs[i]? = some c → ds[i]? = some d → Fit c d
def RcL (W : World) (ds : List D) (us : List Value) : Prop := us.length = ds.length ∧ ∀ (i : Nat) d u, ds[i]? = some d → us[i]? = some u → Rc (oldB W) W d u

section
variable {H : Type} {enc : TypeId × Value → H} {P : Program} {W : World} {base : Nat} {spare : Nat → Bool} {held : Bool}

theorem fitL_one {c : Cs} {d : D} (h : Fit c d) : FitL [c] [d] := ⟨rfl, fun i c' d' h1 h2 => by
  cases i with
  | zero => simp at h1 h2; subst h1; subst h2; exact h
  | succ i => simp at h1⟩
theorem rcL_one {d : D} {u : Value} (h : Rc (oldB W) W d u) : RcL W [d] [u] := ⟨rfl, fun i d' u' h1 h2 => by
  cases i with
  | zero => simp at h1 h2; subst h1; subst h2; exact h
  | succ i => simp at h1⟩
theorem fitL_app {a b : List Cs} {x y : List D} (h : FitL a x) (k : FitL b y) : FitL (a ++ b) (x ++ y) := by
  refine ⟨by simp [h.1, k.1], fun i c d h1 h2 => ?_⟩
  by_cases hi : i < a.length
  · rw [List.getElem?_append_left hi] at h1
    rw [List.getElem?_append_left (by rw [h.1]; exact hi)] at h2
    exact h.2 i c d h1 h2
  · rw [List.getElem?_append_right (by omega)] at h1
    rw [List.getElem?_append_right (by rw [h.1]; omega), h.1] at h2
    exact k.2 _ c d h1 h2
theorem rcL_app {x y : List D} {u v : List Value} (h : RcL W x u) (k : RcL W y v) : RcL W (x ++ y) (u ++ v) := by
  refine ⟨by simp [h.1, k.1], fun i d c h1 h2 => ?_⟩
  by_cases hi : i < x.length
  · rw [List.getElem?_append_left hi] at h1
    rw [List.getElem?_append_left (by rw [h.1]; exact hi)] at h2
    exact h.2 i d c h1 h2
  · rw [List.getElem?_append_right (by omega)] at h1
    rw [List.getElem?_append_right (by rw [h.1]; omega), h.1] at h2
    exact k.2 _ d c h1 h2

/-- The fields of a struct, one after another. -/
theorem open_fields {n : Nat} (ih : ∀ (t : TypeId) (cs : List Value) (x : DataW H × List MemPlace) (sh : List Cs), TyC P t sh → DataW.trod enc P W base spare held n t cs = some x → ∃ ds, FitL sh ds ∧ RcL W ds cs) :
    ∀ (l : List Field) (o : Nat) (sh : List Cs) (cs : List Value), TyF P l o sh → (∀ (i : Nat) (f : Field), l[i]? = some f → ∃ x, DataW.trod enc P W base spare held n f.type ((cs.drop f.offset).take (P.cellsOf f.type)) = some x) → o + sh.length ≤ cs.length → ∃ ds, FitL sh ds ∧ RcL W ds ((cs.drop o).take sh.length)
  | [], o, sh, cs, hf, _, _ => by
    cases hf
    exact ⟨[], ⟨rfl, fun i c d h => by simp at h⟩, by simp [RcL]⟩
  | f :: l, o, sh, cs, hf, hx, hl => by
    cases hf with
    | cons _ _ _ c r ho hc hs hr =>
      obtain ⟨x, hx0⟩ := hx 0 f rfl
      obtain ⟨d1, a1, a2⟩ := ih f.type _ x c hc hx0
      rw [List.length_append] at hl
      obtain ⟨d2, b1, b2⟩ := open_fields ih l (o + c.length) r cs hr (fun i g hg => hx (i + 1) g (by simpa using hg)) (by omega)
      refine ⟨d1 ++ d2, fitL_app a1 b1, ?_⟩
      rw [ho, hs] at a2
      have e : (cs.drop o).take (c ++ r).length = (cs.drop o).take c.length ++ (cs.drop (o + c.length)).take r.length := by
        rw [List.length_append, List.take_add, List.drop_drop]
      rw [e]
      exact rcL_app a2 b2

theorem open_plain : ∀ (fuel : Nat) (t : TypeId) (cs : List Value) (x : DataW H × List MemPlace) (sh : List Cs), TyC P t sh → DataW.trod enc P W base spare held fuel t cs = some x → ∃ ds, FitL sh ds ∧ RcL W ds cs := by
  intro fuel
  induction fuel with
  | zero => intro t cs x sh _ h; simp [DataW.trod] at h
  | succ fuel ih =>
    intro t cs x sh hty h
    cases hty with
    | int _ k ht =>
      obtain ⟨n, rfl, _, hw⟩ := DataW.trod_int ht h
      exact ⟨[.v (.int k n)], fitL_one (.int k n hw), rcL_one (.v _ rfl)⟩
    | bool _ ht =>
      obtain ⟨b, rfl, _⟩ := DataW.trod_bool ht h
      exact ⟨[.v (.bool b)], fitL_one (.bool b), rcL_one (.v _ rfl)⟩
    | str _ ht =>
      obtain ⟨s, rfl, _, hs⟩ := DataW.trod_string ht h
      exact ⟨[.v (.string s)], fitL_one (.str s hs), rcL_one (.v _ rfl)⟩
    | st _ fs _ ht hf hc =>
      obtain ⟨xs, n, hn, _, hl, hxl, hx⟩ := DataW.trod_struct ht h
      have hn' : n = fuel := by omega
      subst hn'
      obtain ⟨ds, h1, h2⟩ := open_fields ih fs.toList 0 sh cs hf (fun i f hi => by
        have hi' : fs[i]? = some f := by simpa using hi
        have hlt : i < xs.length := by rw [hxl]; exact (Array.getElem?_eq_some_iff.1 hi').1
        exact ⟨_, (hx i f hi').trans (List.getElem?_eq_getElem hlt)⟩) (by rw [hl, hc]; omega)
      refine ⟨ds, h1, ?_⟩
      rw [List.drop_zero, List.take_of_length_le (by rw [hl, hc]; exact Nat.le_refl _)] at h2
      exact h2
    | sl _ e ecs ht he hc hp =>
      rcases DataW.trod_slice ht h with ⟨rfl, _⟩ | ⟨a, len, cap, elems, rest, n, hn, rfl, _, hb, hl, hm, hlen, hel, _, _⟩
      · exact ⟨[.sl ecs.length []], fitL_one (.sl ecs [] (by simp) (by simp) (by simp)), rcL_one (.sl ecs.length [] none 0 (fun _ _ => .nilFunc) (by simp) (by simp) (by simp) (by simp))⟩
      have hn' : n = fuel := by omega
      subst hn'
      have each : ∀ i, i < len → ∃ ds, FitL ecs ds ∧ ∀ j, j < ecs.length → ∃ d u, ds[j]? = some d ∧ W.cell? (a.add (i * ecs.length) |>.add j) = some u ∧ Rc (oldB W) W d u := by
        intro i hi
        have h0 := hel i hi
        rw [List.getElem?_eq_getElem (by omega), Option.bind_eq_some_iff] at h0
        obtain ⟨cs', hcs, hy⟩ := h0
        obtain ⟨ds, h1, h2⟩ := ih e cs' _ ecs he hy
        rw [hc] at hcs
        obtain ⟨_, q1, q2⟩ := World.cells?_some hcs
        refine ⟨ds, h1, fun j hj => ?_⟩
        have hd : ds[j]? = some (ds[j]'(by rw [h1.1]; exact hj)) := List.getElem?_eq_getElem _
        have hu : cs'[j]? = some (cs'[j]'(by rw [q1]; exact hj)) := List.getElem?_eq_getElem _
        exact ⟨_, _, hd, by rw [q2 j hj, hu], h2.2 j _ _ hd hu⟩
      have hch : ∃ f : Nat → List D, ∀ i, i < len → FitL ecs (f i) ∧ ∀ j, j < ecs.length → ∃ d u, (f i)[j]? = some d ∧ W.cell? (a.add (i * ecs.length) |>.add j) = some u ∧ Rc (oldB W) W d u := by
        let f : Nat → List D := fun i => if hi : i < len then Classical.choose (each i hi) else []
        refine ⟨f, fun i hi => ?_⟩
        have e : f i = Classical.choose (each i hi) := dif_pos hi
        rw [e]
        exact Classical.choose_spec (each i hi)
      obtain ⟨f, hf⟩ := hch
      -- where the cells lie
      have hat : ∀ i j, i < len → j < ecs.length → a.spot = none ∧ a.block < W.heap.size ∧ ∃ u, W.cell? ⟨a.block, a.off + i * ecs.length + j, none⟩ = some u ∧ ∃ d, (f i)[j]? = some d ∧ Rc (oldB W) W d u := by
        intro i j hi hj
        obtain ⟨d0, u0, _, hu0, _⟩ := (hf 0 (by omega)).2 0 hp
        have hs : a.spot = none := by
          simp only [Addr.add, Nat.zero_mul, if_true] at hu0
          unfold World.cell? at hu0
          split at hu0
          · cases hsp : a.spot with
            | none => rfl
            | some s => rw [hsp] at hu0; simp at hu0
          · cases hu0
        have hlt : a.block < W.heap.size := by
          simp only [Addr.add, Nat.zero_mul, if_true] at hu0
          unfold World.cell? at hu0
          rcases Nat.lt_or_ge a.block W.heap.size with h | h
          · exact h
          · rw [Array.getElem?_eq_none h] at hu0; cases hu0
        obtain ⟨d, u, hd, hu, hr⟩ := (hf i hi).2 j hj
        refine ⟨hs, hlt, u, ?_, d, hd, hr⟩
        rw [← hu]
        obtain ⟨ab, ao, as'⟩ := a
        simp only at hs
        subst hs
        simp only [Addr.add]
        congr 1
        by_cases h1 : i * ecs.length = 0 <;> by_cases h2 : j = 0 <;> simp [h1, h2] <;> omega
      refine ⟨[.sl ecs.length ((List.range len).map f)], fitL_one (.sl ecs _ (by simp; omega) (fun x hx => ?_) (fun i x j c d hx hcj hd => ?_)), rcL_one ?_⟩
      · obtain ⟨i, hi, rfl⟩ := List.mem_map.1 hx
        exact (hf i (List.mem_range.1 hi)).1.1
      · rw [List.getElem?_map] at hx
        rcases Nat.lt_or_ge i len with hi | hi
        · rw [List.getElem?_range hi] at hx
          simp at hx; subst hx
          exact (hf i hi).1.2 j c d hcj hd
        · rw [List.getElem?_eq_none (by simpa using hi)] at hx; simp at hx
      · have hlr : ((List.range len).map f).length = len := by simp
        have := Rc.sl (A := oldB W) (w := W) ecs.length ((List.range len).map f) (some a) cap (fun i j => (W.cell? ⟨a.block, a.off + i * ecs.length + j, none⟩).getD .nilFunc) (by rw [hlr]; exact hl) (fun x hx => by
            obtain ⟨i, hi, rfl⟩ := List.mem_map.1 hx
            exact (hf i (List.mem_range.1 hi)).1.1) (fun hne => ?_) (fun i j x d hx hd => ?_)
        · rw [hlr] at this; exact this
        · have hpos : 0 < len := by
            rcases Nat.eq_zero_or_pos len with h | h
            · subst h; simp at hne
            · exact h
          obtain ⟨hs, hlt, _⟩ := hat 0 0 hpos hp
          refine ⟨a.block, a.off, ?_, hlt, fun i j hi hj => ?_⟩
          · obtain ⟨ab, ao, as'⟩ := a; simp only at hs; subst hs; rfl
          · rw [hlr] at hi
            obtain ⟨_, _, u, hu, _⟩ := hat i j hi hj
            rw [hu]; rfl
        · rw [List.getElem?_map] at hx
          rcases Nat.lt_or_ge i len with hi | hi
          · rw [List.getElem?_range hi] at hx
            simp at hx; subst hx
            have hj : j < ecs.length := by rw [← (hf i hi).1.1]; exact (List.getElem?_eq_some_iff.1 hd).1
            obtain ⟨_, _, u, hu, d', hd', hr⟩ := hat i j hi hj
            rw [hd] at hd'; cases hd'
            rw [hu]; exact hr
          · rw [List.getElem?_eq_none (by simpa using hi)] at hx; simp at hx
end

/-- A slice, as an argument. -/
theorem rv_plain {H : Type} {enc : TypeId × Value → H} {P : Program} {W : World} {base : Nat} {spare : Nat → Bool} {held : Bool} {t : TypeId} {v : Value} {d : DataW H} {ps : List MemPlace} {ecs : List Cs}
    (hty : TyC P t [.sl ecs]) (h : DataW.Trod enc P W base spare held t v d ps) (hv : ∃ a len cap, v = .slice a len cap) : ∃ es, Fit (.sl ecs) (.sl ecs.length es) ∧ Rv (oldB W) W (.sl ecs.length es) v := by
  obtain ⟨fuel, hf⟩ := h
  obtain ⟨ds, h1, h2⟩ := open_plain fuel t _ _ _ hty hf
  obtain ⟨a, len, cap, rfl⟩ := hv
  have hl : ds.length = 1 := h1.1
  match ds, hl with
  | [x], _ =>
    have hx := h1.2 0 _ x rfl rfl
    have hr := h2.2 0 x (.slice a len cap) rfl (by simp [Value.cells])
    cases hx with
    | sl _ es hn hl' h' => exact ⟨es, .sl _ es hn hl' h', .c _ _ (.c _ _ hr)⟩
end Go.Abs

/- Entries: the law Finds. -/
set_option linter.unusedVariables false
set_option linter.unusedSimpArgs false
set_option maxRecDepth 8000
set_option maxHeartbeats 8000000
namespace Go.Proofs.R1
open Go Go.Abs

/-- An enrolment's cells. -/
theorem tyEn : TyC Try.prog 33 [.int .i64, .int .i64, .int .i64] :=
  .st _ _ _ Try.underlying33 (.cons _ _ _ [.int .i64] [.int .i64, .int .i64] rfl (.int _ _ Try.underlying3) (by kernel_rfl) (.cons _ _ _ [.int .i64] [.int .i64] rfl (.int _ _ Try.underlying3) (by kernel_rfl) (.cons _ _ _ [.int .i64] [] rfl (.int _ _ Try.underlying3) (by kernel_rfl) (.nil _)))) (by kernel_rfl)
theorem tyEr : TyC Try.prog 43 [.sl [.int .i64, .int .i64, .int .i64, .bool]] :=
  .sl _ _ _ Try.underlying43 (.st _ _ _ Try.underlying49 (.cons _ _ _ [.int .i64, .int .i64, .int .i64] [.bool] rfl tyEn (by kernel_rfl) (.cons _ _ _ [.bool] [] rfl (.bool _ Try.underlying4) (by kernel_rfl) (.nil _))) (by kernel_rfl)) (by kernel_rfl) (by decide)
theorem fit_int {k : IntKind} {d : D} (h : Fit (.int k) d) : ∃ n, d = .v (.int k n) := by cases h; exact ⟨_, rfl⟩
theorem fit_bool {d : D} (h : Fit .bool d) : ∃ b, d = .v (.bool b) := by cases h; exact ⟨_, rfl⟩
theorem fitEr {es : List (List D)} (h : Fit (.sl [.int .i64, .int .i64, .int .i64, .bool]) (.sl 4 es)) : ∃ l : List Er, es = erR l ∧ l.length ≤ 9223372036854775807 := by
  cases h with
  | sl _ _ hn hl h =>
    have each : ∀ e, e ∈ es → ∃ r : Er, e = erD r := by
      intro e he
      obtain ⟨i, hi⟩ := List.getElem?_of_mem he
      have h4 := hl e he
      match e, h4 with
      | [a, b, c, d], _ =>
        obtain ⟨a, rfl⟩ := fit_int (h i _ 0 _ _ hi rfl rfl)
        obtain ⟨b, rfl⟩ := fit_int (h i _ 1 _ _ hi rfl rfl)
        obtain ⟨c, rfl⟩ := fit_int (h i _ 2 _ _ hi rfl rfl)
        obtain ⟨d, rfl⟩ := fit_bool (h i _ 3 _ _ hi rfl rfl)
        exact ⟨((a, b, c), d), rfl⟩
    have key : ∃ l : List Er, es = erR l := by
      clear h hl hn
      induction es with
      | nil => exact ⟨[], rfl⟩
      | cons e es ih =>
        obtain ⟨r, rfl⟩ := each e List.mem_cons_self
        obtain ⟨l, rfl⟩ := ih fun x hx => each x (List.mem_cons_of_mem _ hx)
        exact ⟨r :: l, rfl⟩
    obtain ⟨l, rfl⟩ := key
    exact ⟨l, rfl, by rw [erR_len] at hn; exact Nat.le_trans hn (by decide)⟩
theorem pap_call {K : Kt} {f : FuncId} (hk : K f = some papC) {np fid : Nat} {M : Mem} {nx : D → Mem → Prop} (l : List Er) (p : Int) {x : D} (hx : fz M true 4 x = some (.sl 4 (erR l))) (hp : l.length ≤ 1000000) (hf : ∀ j, M (fid + j) = none)
    (hn : nx (.row fid) (upd M fid (some (.row 4 (erR (l.filter fun e => e.1.2.2 == p)) true)))) : semCall K np f [x, i64 p] M fid nx :=
  call_clR hk rfl rfl (l, p) (by simp only [argsV, mapO, hx]; rfl) hp hf (by rintro r rfl; exact hn)
theorem fif_call {K : Kt} {f : FuncId} (hk : K f = some fiC) {np fid : Nat} {M : Mem} {nx : D → Mem → Prop} (l : List Er) (c p : Int) {x : D} (hx : fz M true 4 x = some (.sl 4 (erR l))) (hp : l.length ≤ 1000000) (hf : ∀ j, M (fid + j) = none)
    (hn : nx (.tup [.agg (erD ((finE l c p).getD ((0, 0, 0), false))), bl (finE l c p).isSome]) M) : semCall K np f [x, i64 c, i64 p] M fid nx :=
  call_clR hk rfl rfl (l, c, p) (by simp only [argsV, mapO, hx]; rfl) hp hf (by rintro r rfl; exact hn)
abbrev findsLawC : Con := lawC (List Er × List Int × Int × Int) (fun a => [.d (.sl 4 (erR a.1)), .d (.sl 1 (intL a.2.1)), .d (i64 a.2.2.1), .d (i64 a.2.2.2)]) (fun a => a.1.length ≤ 9223372036854775807 ∧ a.2.1.length ≤ 9223372036854775807) [false, false, false, false]
theorem eFinds_ok : CallOk Try.prog 11 findsLawC := by
  refine ok_of_body' 105 4 Try.func11 rfl (by decide) Try.ntmps11 (by intro a h; exact ⟨rfl, rfl⟩) (by decide) (by rintro _ a r _ rfl; rfl) ?_
  rintro ⟨(l : List Er), tl, c, p⟩ ⟨h0, h1⟩
  simp only [lawC] at h0 h1 ⊢
  simp only [initE, initMm, List.length_cons, List.length_nil, Nat.reduceAdd]
  have hK : KOk Try.prog (kOf [(12, newC), (13, eeC), (28, cutC), (20, foC), (30, fiC), (32, fiC), (33, papC), (34, papC), (24, smC), (18, trueC)]) := kOk_cons new_ok (kOk_cons ee_ok (kOk_cons cut_ok (kOk_cons rfo_ok (kOk_cons fi_ok (kOk_cons rfi_ok (kOk_cons pap_ok (kOk_cons rpap_ok (kOk_cons sm_ok (kOk_cons eAwk_ok kOk_nil)))))))))
  by_cases hl : 40 < l.length
  · have hc : decide ((l.length : Int) > 40) = true := by simp <;> omega
    repeat' (first
    | (with_reducible refine aw_seq ?_)
    | (with_reducible refine kont_in ?_; simp only [go_sem, reduceIte, Nat.reduceLT, Nat.reduceEqDiff, Nat.reduceAdd, Nat.reduceMul, Nat.reduceSub, Nat.reduceLeDiff, reduceCtorEq, hc])
    | (with_reducible refine dKont_in ?_; simp only [go_sem, reduceIte, Nat.reduceLT, Nat.reduceEqDiff, Nat.reduceAdd, Nat.reduceMul, Nat.reduceSub, Nat.reduceLeDiff, reduceCtorEq, hc])
    | (with_reducible refine aw_drw (by kernel_rfl) kOk_nil kDet_nil ?_; simp only [go_sem, reduceIte, Nat.reduceLT, Nat.reduceEqDiff, Nat.reduceAdd, Nat.reduceMul, Nat.reduceSub, Nat.reduceLeDiff, reduceCtorEq, hc])
    | (with_reducible refine aw_reg hK ?_; simp only [go_sem, reduceIte, Nat.reduceLT, Nat.reduceEqDiff, Nat.reduceAdd, Nat.reduceMul, Nat.reduceSub, Nat.reduceLeDiff, reduceCtorEq, hc])
    | (with_reducible refine aw_if ?_; simp only [go_sem, reduceIte, Nat.reduceLT, Nat.reduceEqDiff, Nat.reduceAdd, Nat.reduceMul, Nat.reduceSub, Nat.reduceLeDiff, reduceCtorEq, hc])
    | (with_reducible refine aw_block ?_)
    | (with_reducible refine aw_ret ?_; (try simp only [thenQ, blockQ]); refine aw_ret' ?_; simp only [go_sem, reduceIte, Nat.reduceLT, Nat.reduceEqDiff, Nat.reduceAdd, Nat.reduceMul, Nat.reduceSub, Nat.reduceLeDiff, reduceCtorEq, hc])
    | (with_reducible refine aw_exit ?_; simp only [thenQ, blockQ, reduceIte, Nat.reduceEqDiff])
    | (with_reducible refine aw_skip ?_; simp only [thenQ, blockQ])
    | (with_reducible refine gate_intro (fun h => ?_) (fun h => ?_) <;> simp only [h, go_sem, reduceIte, Nat.reduceLT, Nat.reduceEqDiff, Nat.reduceAdd, Nat.reduceMul, Nat.reduceSub, Nat.reduceLeDiff, reduceCtorEq, hc] <;> (try simp only [decide_eq_true_eq, decide_eq_false_iff_not, Bool.not_true] at h))
    | (with_reducible refine chk_in (by kernel_rfl) ?_)
    | (with_reducible refine And.intro (And.intro (by omega) (by omega)) ?_)
    | (with_reducible refine And.intro (by omega) ?_)
    | (rw [get_in]; rotate_left; omega; simp only [go_sem, reduceIte, Nat.reduceLT, Nat.reduceEqDiff, Nat.reduceAdd, Nat.reduceMul, Nat.reduceSub, Nat.reduceLeDiff, reduceCtorEq, hc])
    | fail)
  have hc : decide ((l.length : Int) > 40) = false := by simp <;> omega
  have hfl : ∀ (a : List Er) (p : Int), (a.filter fun e => e.1.2.2 == p).length ≤ a.length := fun a p => List.length_filter_le _ _
  have hfl1 := hfl l p
  repeat' (first
    | (with_reducible refine aw_seq ?_)
    | (with_reducible refine kont_in ?_; simp only [go_sem, reduceIte, Nat.reduceLT, Nat.reduceEqDiff, Nat.reduceAdd, Nat.reduceMul, Nat.reduceSub, Nat.reduceLeDiff, reduceCtorEq, hc, tp_frz, tp_fz, erD_eqc, eq_self, decide_true, beq_self_eq_true])
    | (with_reducible refine dKont_in ?_; simp only [go_sem, reduceIte, Nat.reduceLT, Nat.reduceEqDiff, Nat.reduceAdd, Nat.reduceMul, Nat.reduceSub, Nat.reduceLeDiff, reduceCtorEq, hc, tp_frz, tp_fz, erD_eqc, eq_self, decide_true, beq_self_eq_true])
    | (with_reducible refine aw_drw (by kernel_rfl) kOk_nil kDet_nil ?_; simp only [go_sem, reduceIte, Nat.reduceLT, Nat.reduceEqDiff, Nat.reduceAdd, Nat.reduceMul, Nat.reduceSub, Nat.reduceLeDiff, reduceCtorEq, hc, tp_frz, tp_fz, erD_eqc, eq_self, decide_true, beq_self_eq_true])
    | (with_reducible refine aw_reg hK ?_; simp only [go_sem, reduceIte, Nat.reduceLT, Nat.reduceEqDiff, Nat.reduceAdd, Nat.reduceMul, Nat.reduceSub, Nat.reduceLeDiff, reduceCtorEq, hc, tp_frz, tp_fz, erD_eqc, eq_self, decide_true, beq_self_eq_true])
    | (with_reducible refine aw_if ?_; simp only [go_sem, reduceIte, Nat.reduceLT, Nat.reduceEqDiff, Nat.reduceAdd, Nat.reduceMul, Nat.reduceSub, Nat.reduceLeDiff, reduceCtorEq, hc, tp_frz, tp_fz, erD_eqc, eq_self, decide_true, beq_self_eq_true])
    | (with_reducible refine aw_block ?_)
    | (with_reducible refine aw_ret ?_; (try simp only [thenQ, blockQ]); refine aw_ret' ?_; simp only [go_sem, reduceIte, Nat.reduceLT, Nat.reduceEqDiff, Nat.reduceAdd, Nat.reduceMul, Nat.reduceSub, Nat.reduceLeDiff, reduceCtorEq, hc, tp_frz, tp_fz, erD_eqc, eq_self, decide_true, beq_self_eq_true])
    | (with_reducible refine aw_exit ?_; simp only [thenQ, blockQ, reduceIte, Nat.reduceEqDiff])
    | (with_reducible refine aw_skip ?_; simp only [thenQ, blockQ])
    | (with_reducible refine gate_intro (fun h => ?_) (fun h => ?_) <;> simp only [h, go_sem, reduceIte, Nat.reduceLT, Nat.reduceEqDiff, Nat.reduceAdd, Nat.reduceMul, Nat.reduceSub, Nat.reduceLeDiff, reduceCtorEq, hc, tp_frz, tp_fz, erD_eqc, eq_self, decide_true, beq_self_eq_true] <;> (try simp only [decide_eq_true_eq, decide_eq_false_iff_not, Bool.not_true] at h))
    | (with_reducible refine chk_in (by kernel_rfl) ?_)
    | (with_reducible refine And.intro (And.intro (by omega) (by omega)) ?_)
    | (with_reducible refine And.intro (by omega) ?_)
    | (refine new_call rfl tl h1 (memOf_free rfl) (fun t ht => ?_))
    | (refine ee_call rfl _ _ _ rfl (by assumption) (by omega) (memOf_free rfl) (fun es t2 ht2 hes => ?_))
    | (refine true_call rfl rfl ?_)
    | (refine fo_call rfl es (20, 30) _ rfl rfl (by omega) (memOf_free rfl) (fun hf1 hf2 => ?_))
    | (refine cutv_call rfl _ 5 (by omega) rfl (fun v5 _ _ => ?_))
    | (refine cutv_call rfl _ 3 (by omega) rfl (fun v3 _ _ => ?_))
    | (refine fif_call rfl l c p rfl (by omega) (memOf_free rfl) ?_)
    | (refine fif_call rfl _ _ _ rfl (by omega) (memOf_free rfl) ?_)
    | (refine pap_call rfl l p rfl (by omega) (memOf_free rfl) ?_)
    | (refine pap_call rfl _ _ rfl (by omega) (memOf_free rfl) ?_)
    | (refine sm_call rfl _ _ rfl rfl (by have := hfl (foldR es (20, 30) 30).1 v3; omega) rfl ?_)
    | (refine sm_call rfl _ _ rfl rfl (by omega) rfl ?_)
    | (rw [get_in]; rotate_left; omega; simp only [go_sem, reduceIte, Nat.reduceLT, Nat.reduceEqDiff, Nat.reduceAdd, Nat.reduceMul, Nat.reduceSub, Nat.reduceLeDiff, reduceCtorEq, hc, tp_frz, tp_fz, erD_eqc, eq_self, decide_true, beq_self_eq_true])
    | fail)
  all_goals first | rfl | (exfalso; simp at h; done)
end Go.Proofs.R1
