/- Entries: the law Own. -/
import Derived.Test.YtjhhmkkndgocfaaCR4M
set_option linter.unusedVariables false
set_option linter.unusedSimpArgs false
set_option maxRecDepth 8000
set_option maxHeartbeats 8000000
namespace Go.Proofs.R1
open Go Go.Abs

theorem gone_step {l m : List Er} {i : Nat} {r : Er} (hr : l[i]? = some r) : goneE (l.take (i + 1)) m = goneE (l.take i) m ++ (if r ∈ m then [] else [r]) := by
  unfold goneE
  rw [List.take_add_one, hr, List.filter_append]
  by_cases h : r ∈ m
  · rw [if_pos h, Option.toList_some, List.filter_cons_of_neg (by simpa using h)]; rfl
  · rw [if_neg h, Option.toList_some, List.filter_cons_of_pos (by simpa using h)]; rfl
theorem eeD_g3 (e : EE) : (eeD e)[3]? = some (i64 e.2.1) := rfl
theorem gone_le (l m : List Er) : (goneE l m).length ≤ l.length := List.length_filter_le _ _
theorem fin_is {m : List Er} (hA : AscE m) (r : Er) : (∃ y, finE m r.1.1 r.1.2.2 = some y ∧ (y = r ↔ r ∈ m)) ∨ (finE m r.1.1 r.1.2.2 = none ∧ r ∉ m) := by
  cases h : finE m r.1.1 r.1.2.2 with
  | some y =>
    refine .inl ⟨y, rfl, ?_⟩
    rw [← fin_mem hA, h]
    simp
  | none => exact .inr ⟨rfl, fun hm => by rw [← fin_mem hA, h] at hm; cases hm⟩
theorem eOwn_ok : CallOk Try.prog 10 canLaw4C := by
  refine ok_of_body' 185 1 Try.func10 rfl (by decide) Try.ntmps10 (by intro a h; exact ⟨rfl, rfl⟩) (by decide) (by rintro _ a r _ rfl; rfl) ?_
  rintro tl h1
  simp only [lawC] at h1 ⊢
  simp only [initE, initMm, List.length_cons, List.length_nil, Nat.reduceAdd]
  have hK : KOk Try.prog (kOf [(12, newC), (19, deadC), (13, eeC), (18, trueC)]) := kOk_cons new_ok (kOk_cons dead_ok (kOk_cons ee_ok (kOk_cons eAwk_ok kOk_nil)))
  have hK2 : KOk Try.prog (kOf [(13, eeC), (26, foC), (30, fiC), (22, apC)]) := kOk_cons ee_ok (kOk_cons fo_ok (kOk_cons fi_ok (kOk_cons ap_ok kOk_nil)))
  have hD : KDet (kOf [(13, eeC), (26, foC), (30, fiC), (22, apC)]) := kDet_wild eeC_wild (kDet_cons (fun _ _ => ⟨_, rfl, by simp, fun _ h => h⟩) (kDet_cons (fun _ _ => ⟨_, rfl, by simp, fun _ h => h⟩) (kDet_cons (fun _ _ => ⟨_, rfl, by simp, fun _ h => h⟩) kDet_nil)))
  have s1 : eeC.srt = none := rfl
  have c1 : eeC.clean = false := rfl
  have i1 : eeC.kinds = [true, false, false] := rfl
  have s2 : foC.srt = none := rfl
  have c2 : foC.clean = true := rfl
  have s3 : fiC.srt = none := rfl
  have c3 : fiC.clean = true := rfl
  have s5 : apC.srt = none := rfl
  have c5 : apC.clean = true := rfl
  repeat' (first
    | (with_reducible refine aw_seq ?_)
    | (with_reducible refine kont_in ?_; simp only [go_sem, reduceIte, Nat.reduceLT, Nat.reduceEqDiff, Nat.reduceAdd, Nat.reduceMul, Nat.reduceSub, Nat.reduceLeDiff, reduceCtorEq, tp_frz, tp_fz, s1, c1, i1, s2, c2, s3, c3, s5, c5])
    | (with_reducible refine dKont_in ?_; simp only [go_sem, reduceIte, Nat.reduceLT, Nat.reduceEqDiff, Nat.reduceAdd, Nat.reduceMul, Nat.reduceSub, Nat.reduceLeDiff, reduceCtorEq, tp_frz, tp_fz, s1, c1, i1, s2, c2, s3, c3, s5, c5])
    | (with_reducible refine aw_drw (by kernel_rfl) hK2 hD ?_; simp only [go_sem, reduceIte, Nat.reduceLT, Nat.reduceEqDiff, Nat.reduceAdd, Nat.reduceMul, Nat.reduceSub, Nat.reduceLeDiff, reduceCtorEq, tp_frz, tp_fz, s1, c1, i1, s2, c2, s3, c3, s5, c5])
    | (with_reducible refine aw_reg hK ?_; simp only [go_sem, reduceIte, Nat.reduceLT, Nat.reduceEqDiff, Nat.reduceAdd, Nat.reduceMul, Nat.reduceSub, Nat.reduceLeDiff, reduceCtorEq, tp_frz, tp_fz, s1, c1, i1, s2, c2, s3, c3, s5, c5])
    | (with_reducible refine aw_if ?_; simp only [go_sem, reduceIte, Nat.reduceLT, Nat.reduceEqDiff, Nat.reduceAdd, Nat.reduceMul, Nat.reduceSub, Nat.reduceLeDiff, reduceCtorEq, tp_frz, tp_fz, s1, c1, i1, s2, c2, s3, c3, s5, c5])
    | (with_reducible refine aw_block ?_)
    | (with_reducible refine aw_ret ?_; (try simp only [thenQ, blockQ]); refine aw_ret' ?_; simp only [go_sem, reduceIte, Nat.reduceLT, Nat.reduceEqDiff, Nat.reduceAdd, Nat.reduceMul, Nat.reduceSub, Nat.reduceLeDiff, reduceCtorEq, tp_frz, tp_fz, s1, c1, i1, s2, c2, s3, c3, s5, c5])
    | (with_reducible refine aw_exit ?_; simp only [thenQ, blockQ, reduceIte, Nat.reduceEqDiff])
    | (with_reducible refine aw_skip ?_; simp only [thenQ, blockQ])
    | (with_reducible refine gate_intro (fun h => ?_) (fun h => ?_) <;> simp only [h, go_sem, reduceIte, Nat.reduceLT, Nat.reduceEqDiff, Nat.reduceAdd, Nat.reduceMul, Nat.reduceSub, Nat.reduceLeDiff, reduceCtorEq, tp_frz, tp_fz, s1, c1, i1, s2, c2, s3, c3, s5, c5] <;> (try simp only [decide_eq_true_eq, decide_eq_false_iff_not, Bool.not_true] at h))
    | (with_reducible refine chk_in (by kernel_rfl) ?_)
    | (with_reducible refine And.intro (And.intro (by omega) (by omega)) ?_)
    | (with_reducible refine And.intro (by omega) ?_)
    | (refine new_call rfl tl h1 (memOf_free rfl) (fun t ht => ?_))
    | (refine dead_call rfl _ _ rfl (by assumption) (by omega) (memOf_free rfl) (fun d t1 ht1 hd => ?_))
    | (refine ee_call rfl _ _ _ rfl (by assumption) (by omega) (memOf_free rfl) (fun l t2 ht2 hl => ?_))
    | (refine true_call rfl rfl ?_)
    | (refine fo_call rfl l d _ rfl rfl (by omega) (memOf_free rfl) (fun hf1 hf2 => ?_))
    | (rw [get_in]; rotate_left; omega; simp only [go_sem, reduceIte, Nat.reduceLT, Nat.reduceEqDiff, Nat.reduceAdd, Nat.reduceMul, Nat.reduceSub, Nat.reduceLeDiff, reduceCtorEq, tp_frz, tp_fz, s1, c1, i1, s2, c2, s3, c3, s5, c5])
    | fail)
  rename List EE => es
  have hva : vaL (foldR l d 1000000).1 = true := foldR_va
  generalize (foldR l d 1000000).1 = a at *
  have hA := (vaL_iff.1 hva).2.2
  refine aw_rounds (α := Nat) (fun i => ⟨envOf [(9, i64 i), (8, .row 102), (5, .row 101), (4, .box 103 0)], memOf [(101, .row 4 (erR a) true), (102, .row 8 (eeR es) true), (103, .cells (dlD d))], 400⟩)
    (fun i => i ≤ es.length) (fun i => es.length - i) 0 (Nat.zero_le _) (weak_in [(101, 45), (102, 81), (103, 25)] (by repeat' (first | trivial | constructor | rfl)) (by repeat' (first | trivial | constructor | rfl)) (by rfl) (by rfl) (by rfl)) ?_
  intro i hi
  cases hx : es[i]? with
  | none =>
    have hge : es.length ≤ i := by simpa using hx
    have hc : decide ((i : Int) < (es.length : Int)) = false := by simp <;> omega
    repeat' (first
    | (with_reducible refine aw_seq ?_)
    | (with_reducible refine kont_in ?_; simp only [go_sem, reduceIte, Nat.reduceLT, Nat.reduceEqDiff, Nat.reduceAdd, Nat.reduceMul, Nat.reduceSub, Nat.reduceLeDiff, reduceCtorEq, hc])
    | (with_reducible refine dKont_in ?_; simp only [go_sem, reduceIte, Nat.reduceLT, Nat.reduceEqDiff, Nat.reduceAdd, Nat.reduceMul, Nat.reduceSub, Nat.reduceLeDiff, reduceCtorEq, hc])
    | (with_reducible refine aw_drw (by kernel_rfl) kOk_nil kDet_nil ?_; simp only [go_sem, reduceIte, Nat.reduceLT, Nat.reduceEqDiff, Nat.reduceAdd, Nat.reduceMul, Nat.reduceSub, Nat.reduceLeDiff, reduceCtorEq, hc])
    | (with_reducible refine aw_reg hK ?_; simp only [go_sem, reduceIte, Nat.reduceLT, Nat.reduceEqDiff, Nat.reduceAdd, Nat.reduceMul, Nat.reduceSub, Nat.reduceLeDiff, reduceCtorEq, hc])
    | (with_reducible refine aw_if ?_; simp only [go_sem, reduceIte, Nat.reduceLT, Nat.reduceEqDiff, Nat.reduceAdd, Nat.reduceMul, Nat.reduceSub, Nat.reduceLeDiff, reduceCtorEq, hc])
    | (with_reducible refine aw_block ?_)
    | (with_reducible refine aw_ret ?_; (try simp only [thenQ, blockQ]); refine aw_ret' ?_; simp only [go_sem, reduceIte, Nat.reduceLT, Nat.reduceEqDiff, Nat.reduceAdd, Nat.reduceMul, Nat.reduceSub, Nat.reduceLeDiff, reduceCtorEq, hc])
    | (with_reducible refine aw_exit ?_; simp only [thenQ, blockQ, reduceIte, Nat.reduceEqDiff])
    | (with_reducible refine aw_skip ?_; simp only [thenQ, blockQ])
    | (with_reducible refine gate_intro (fun h => ?_) (fun h => ?_) <;> simp only [h, go_sem, reduceIte, Nat.reduceLT, Nat.reduceEqDiff, Nat.reduceAdd, Nat.reduceMul, Nat.reduceSub, Nat.reduceLeDiff, reduceCtorEq, hc] <;> (try simp only [decide_eq_true_eq, decide_eq_false_iff_not, Bool.not_true] at h))
    | (with_reducible refine chk_in (by kernel_rfl) ?_)
    | (with_reducible refine And.intro (And.intro (by omega) (by omega)) ?_)
    | (with_reducible refine And.intro (by omega) ?_)
    | (refine true_call rfl rfl ?_)
    | (rw [get_in]; rotate_left; omega; simp only [go_sem, reduceIte, Nat.reduceLT, Nat.reduceEqDiff, Nat.reduceAdd, Nat.reduceMul, Nat.reduceSub, Nat.reduceLeDiff, reduceCtorEq, hc])
    | fail)
  | some x =>
    have hlt : i < es.length := (List.getElem?_eq_some_iff.1 hx).1
    have hc : decide ((i : Int) < (es.length : Int)) = true := by simp <;> omega
    have hw := wrS (i := i) (by omega)
    have hal := applyR_len a d x
    cases hz : (applyR a d x).2 != 0 with
    | true =>
      repeat' (first
    | (with_reducible refine aw_seq ?_)
    | (with_reducible refine kont_in ?_; simp only [go_sem, reduceIte, Nat.reduceLT, Nat.reduceEqDiff, Nat.reduceAdd, Nat.reduceMul, Nat.reduceSub, Nat.reduceLeDiff, reduceCtorEq, hc, hw, hx, hz, s1, c1, i1, s2, c2, s3, c3, s5, c5])
    | (with_reducible refine dKont_in ?_; simp only [go_sem, reduceIte, Nat.reduceLT, Nat.reduceEqDiff, Nat.reduceAdd, Nat.reduceMul, Nat.reduceSub, Nat.reduceLeDiff, reduceCtorEq, hc, hw, hx, hz, s1, c1, i1, s2, c2, s3, c3, s5, c5])
    | (with_reducible refine aw_drw (by kernel_rfl) hK2 hD ?_; simp only [go_sem, reduceIte, Nat.reduceLT, Nat.reduceEqDiff, Nat.reduceAdd, Nat.reduceMul, Nat.reduceSub, Nat.reduceLeDiff, reduceCtorEq, hc, hw, hx, hz, s1, c1, i1, s2, c2, s3, c3, s5, c5])
    | (with_reducible refine aw_reg hK ?_; simp only [go_sem, reduceIte, Nat.reduceLT, Nat.reduceEqDiff, Nat.reduceAdd, Nat.reduceMul, Nat.reduceSub, Nat.reduceLeDiff, reduceCtorEq, hc, hw, hx, hz, s1, c1, i1, s2, c2, s3, c3, s5, c5])
    | (with_reducible refine aw_if ?_; simp only [go_sem, reduceIte, Nat.reduceLT, Nat.reduceEqDiff, Nat.reduceAdd, Nat.reduceMul, Nat.reduceSub, Nat.reduceLeDiff, reduceCtorEq, hc, hw, hx, hz, s1, c1, i1, s2, c2, s3, c3, s5, c5])
    | (with_reducible refine aw_block ?_)
    | (with_reducible refine aw_ret ?_; (try simp only [thenQ, blockQ]); refine aw_ret' ?_; simp only [go_sem, reduceIte, Nat.reduceLT, Nat.reduceEqDiff, Nat.reduceAdd, Nat.reduceMul, Nat.reduceSub, Nat.reduceLeDiff, reduceCtorEq, hc, hw, hx, hz, s1, c1, i1, s2, c2, s3, c3, s5, c5])
    | (with_reducible refine aw_exit ?_; simp only [thenQ, blockQ, reduceIte, Nat.reduceEqDiff])
    | (with_reducible refine aw_skip ?_; simp only [thenQ, blockQ])
    | (with_reducible refine gate_intro (fun h => ?_) (fun h => ?_) <;> simp only [h, go_sem, reduceIte, Nat.reduceLT, Nat.reduceEqDiff, Nat.reduceAdd, Nat.reduceMul, Nat.reduceSub, Nat.reduceLeDiff, reduceCtorEq, hc, hw, hx, hz, s1, c1, i1, s2, c2, s3, c3, s5, c5] <;> (try simp only [decide_eq_true_eq, decide_eq_false_iff_not, Bool.not_true] at h))
    | (with_reducible refine chk_in (by kernel_rfl) ?_)
    | (with_reducible refine And.intro (And.intro (by omega) (by omega)) ?_)
    | (with_reducible refine And.intro (by omega) ?_)
    | (refine ap_call rfl a d x rfl (by omega) (memOf_free rfl) ?_)
    | (rw [get_in]; rotate_left; omega; simp only [go_sem, reduceIte, Nat.reduceLT, Nat.reduceEqDiff, Nat.reduceAdd, Nat.reduceMul, Nat.reduceSub, Nat.reduceLeDiff, reduceCtorEq, hc, hw, hx, hz, s1, c1, i1, s2, c2, s3, c3, s5, c5])
    | fail)
      exact ⟨i + 1, weak_in [(101, 101), (102, 102), (103, 103)] (by repeat' (first | trivial | constructor | rfl)) (by repeat' (first | trivial | constructor | rfl)) (by rfl) (by rfl) (by rfl), hlt, by omega⟩
    | false =>
      have hz0 : (applyR a d x).2 = 0 := by simpa using hz
      obtain ⟨m, hm⟩ : ∃ m, applyR a d x = (m, 0) := ⟨(applyR a d x).1, by rw [← hz0]⟩
      have hvm := (apply_valid hm).2
      obtain ⟨hcnt, hsrc⟩ := own_facts hm
      have hAm := (vaL_iff.1 hvm).2.2
      have hml := (vaL_iff.1 hvm).1
      have hm1 : (applyR a d x).1 = m := by rw [hm]
      have hb0 : ((0 : Int) != 0) = false := rfl
      rw [hm1] at hal
      repeat' (first
    | (with_reducible refine aw_seq ?_)
    | (with_reducible refine kont_in ?_; simp only [go_sem, reduceIte, Nat.reduceLT, Nat.reduceEqDiff, Nat.reduceAdd, Nat.reduceMul, Nat.reduceSub, Nat.reduceLeDiff, reduceCtorEq, hc, hw, hx, hz0, hb0, hm1, s1, c1, i1, s2, c2, s3, c3, s5, c5])
    | (with_reducible refine dKont_in ?_; simp only [go_sem, reduceIte, Nat.reduceLT, Nat.reduceEqDiff, Nat.reduceAdd, Nat.reduceMul, Nat.reduceSub, Nat.reduceLeDiff, reduceCtorEq, hc, hw, hx, hz0, hb0, hm1, s1, c1, i1, s2, c2, s3, c3, s5, c5])
    | (with_reducible refine aw_drw (by kernel_rfl) hK2 hD ?_; simp only [go_sem, reduceIte, Nat.reduceLT, Nat.reduceEqDiff, Nat.reduceAdd, Nat.reduceMul, Nat.reduceSub, Nat.reduceLeDiff, reduceCtorEq, hc, hw, hx, hz0, hb0, hm1, s1, c1, i1, s2, c2, s3, c3, s5, c5])
    | (with_reducible refine aw_reg hK ?_; simp only [go_sem, reduceIte, Nat.reduceLT, Nat.reduceEqDiff, Nat.reduceAdd, Nat.reduceMul, Nat.reduceSub, Nat.reduceLeDiff, reduceCtorEq, hc, hw, hx, hz0, hb0, hm1, s1, c1, i1, s2, c2, s3, c3, s5, c5])
    | (with_reducible refine aw_if ?_; simp only [go_sem, reduceIte, Nat.reduceLT, Nat.reduceEqDiff, Nat.reduceAdd, Nat.reduceMul, Nat.reduceSub, Nat.reduceLeDiff, reduceCtorEq, hc, hw, hx, hz0, hb0, hm1, s1, c1, i1, s2, c2, s3, c3, s5, c5])
    | (with_reducible refine aw_block ?_)
    | (with_reducible refine aw_ret ?_; (try simp only [thenQ, blockQ]); refine aw_ret' ?_; simp only [go_sem, reduceIte, Nat.reduceLT, Nat.reduceEqDiff, Nat.reduceAdd, Nat.reduceMul, Nat.reduceSub, Nat.reduceLeDiff, reduceCtorEq, hc, hw, hx, hz0, hb0, hm1, s1, c1, i1, s2, c2, s3, c3, s5, c5])
    | (with_reducible refine aw_exit ?_; simp only [thenQ, blockQ, reduceIte, Nat.reduceEqDiff])
    | (with_reducible refine aw_skip ?_; simp only [thenQ, blockQ])
    | (with_reducible refine gate_intro (fun h => ?_) (fun h => ?_) <;> simp only [h, go_sem, reduceIte, Nat.reduceLT, Nat.reduceEqDiff, Nat.reduceAdd, Nat.reduceMul, Nat.reduceSub, Nat.reduceLeDiff, reduceCtorEq, hc, hw, hx, hz0, hb0, hm1, s1, c1, i1, s2, c2, s3, c3, s5, c5] <;> (try simp only [decide_eq_true_eq, decide_eq_false_iff_not, Bool.not_true] at h))
    | (with_reducible refine chk_in (by kernel_rfl) ?_)
    | (with_reducible refine And.intro (And.intro (by omega) (by omega)) ?_)
    | (with_reducible refine And.intro (by omega) ?_)
    | (refine ap_call rfl a d x rfl (by omega) (memOf_free rfl) ?_)
    | (rw [get_in]; rotate_left; omega; simp only [go_sem, reduceIte, Nat.reduceLT, Nat.reduceEqDiff, Nat.reduceAdd, Nat.reduceMul, Nat.reduceSub, Nat.reduceLeDiff, reduceCtorEq, hc, hw, hx, hz0, hb0, hm1, s1, c1, i1, s2, c2, s3, c3, s5, c5])
    | fail)
      generalize hgg : (goneE a m).length = gg at hcnt
      generalize hcc : (goneE m a).length = cc at hcnt
      refine aw_rounds (α := Nat) (fun k => ⟨envOf [(14, i64 k), (12, i64 (goneE (a.take k) m).length), (13, i64 0), (10, .row 104), (9, i64 i), (8, .row 102), (5, .row 101), (4, .box 103 0)], memOf [(101, .row 4 (erR a) true), (102, .row 8 (eeR es) true), (103, .cells (dlD d)), (104, .row 4 (erR m) true)], 600⟩)
        (fun k => k ≤ a.length) (fun k => a.length - k) 0 (Nat.zero_le _) (weak_in [(101, 101), (102, 102), (103, 103), (104, 440)] (by repeat' (first | trivial | constructor | rfl)) (by repeat' (first | trivial | constructor | rfl)) (by rfl) (by rfl) (by rfl)) ?_
      intro k hk
      cases hr : a[k]? with
      | none =>
        have hge : a.length ≤ k := by simpa using hr
        have hc : decide ((k : Int) < (a.length : Int)) = false := by simp <;> omega
        rw [List.take_of_length_le hge, hgg]
        repeat' (first
    | (with_reducible refine aw_seq ?_)
    | (with_reducible refine kont_in ?_; simp only [go_sem, reduceIte, Nat.reduceLT, Nat.reduceEqDiff, Nat.reduceAdd, Nat.reduceMul, Nat.reduceSub, Nat.reduceLeDiff, reduceCtorEq, hc])
    | (with_reducible refine dKont_in ?_; simp only [go_sem, reduceIte, Nat.reduceLT, Nat.reduceEqDiff, Nat.reduceAdd, Nat.reduceMul, Nat.reduceSub, Nat.reduceLeDiff, reduceCtorEq, hc])
    | (with_reducible refine aw_drw (by kernel_rfl) hK2 hD ?_; simp only [go_sem, reduceIte, Nat.reduceLT, Nat.reduceEqDiff, Nat.reduceAdd, Nat.reduceMul, Nat.reduceSub, Nat.reduceLeDiff, reduceCtorEq, hc])
    | (with_reducible refine aw_reg hK ?_; simp only [go_sem, reduceIte, Nat.reduceLT, Nat.reduceEqDiff, Nat.reduceAdd, Nat.reduceMul, Nat.reduceSub, Nat.reduceLeDiff, reduceCtorEq, hc])
    | (with_reducible refine aw_if ?_; simp only [go_sem, reduceIte, Nat.reduceLT, Nat.reduceEqDiff, Nat.reduceAdd, Nat.reduceMul, Nat.reduceSub, Nat.reduceLeDiff, reduceCtorEq, hc])
    | (with_reducible refine aw_block ?_)
    | (with_reducible refine aw_ret ?_; (try simp only [thenQ, blockQ]); refine aw_ret' ?_; simp only [go_sem, reduceIte, Nat.reduceLT, Nat.reduceEqDiff, Nat.reduceAdd, Nat.reduceMul, Nat.reduceSub, Nat.reduceLeDiff, reduceCtorEq, hc])
    | (with_reducible refine aw_exit ?_; simp only [thenQ, blockQ, reduceIte, Nat.reduceEqDiff])
    | (with_reducible refine aw_skip ?_; simp only [thenQ, blockQ])
    | (with_reducible refine gate_intro (fun h => ?_) (fun h => ?_) <;> simp only [h, go_sem, reduceIte, Nat.reduceLT, Nat.reduceEqDiff, Nat.reduceAdd, Nat.reduceMul, Nat.reduceSub, Nat.reduceLeDiff, reduceCtorEq, hc] <;> (try simp only [decide_eq_true_eq, decide_eq_false_iff_not, Bool.not_true] at h))
    | (with_reducible refine chk_in (by kernel_rfl) ?_)
    | (with_reducible refine And.intro (And.intro (by omega) (by omega)) ?_)
    | (with_reducible refine And.intro (by omega) ?_)
    | (rw [get_in]; rotate_left; omega; simp only [go_sem, reduceIte, Nat.reduceLT, Nat.reduceEqDiff, Nat.reduceAdd, Nat.reduceMul, Nat.reduceSub, Nat.reduceLeDiff, reduceCtorEq, hc])
    | fail)
        refine aw_rounds (α := Nat) (fun k => ⟨envOf [(17, i64 k), (12, i64 gg), (13, i64 (goneE (m.take k) a).length), (10, .row 104), (9, i64 i), (8, .row 102), (5, .row 101), (4, .box 103 0)], memOf [(101, .row 4 (erR a) true), (102, .row 8 (eeR es) true), (103, .cells (dlD d)), (104, .row 4 (erR m) true)], 600⟩)
          (fun k => k ≤ m.length) (fun k => m.length - k) 0 (Nat.zero_le _) (weak_in [(101, 101), (102, 102), (103, 103), (104, 104)] (by repeat' (first | trivial | constructor | rfl)) (by repeat' (first | trivial | constructor | rfl)) (by rfl) (by rfl) (by rfl)) ?_
        intro k hk
        cases hr : m[k]? with
        | none =>
          have hge : m.length ≤ k := by simpa using hr
          have hc : decide ((k : Int) < (m.length : Int)) = false := by simp <;> omega
          rw [List.take_of_length_le hge, hcc]
          have k1 : decide ((1 : Int) < 1) = false := rfl
          have k2 : decide ((2 : Int) < 1) = false := rfl
          have k3 : decide ((3 : Int) < 1) = false := rfl
          have k4 : decide ((1 : Int) > 3) = false := rfl
          have k5 : decide ((2 : Int) > 3) = false := rfl
          have k6 : decide ((3 : Int) > 3) = false := rfl
          have k7 : (((0 : Nat) : Int) != 0) = false := rfl
          have k8 : (((1 : Nat) : Int) != 1) = false := rfl
          have n1 : Int.toNat 1 = 1 := rfl
          have n2 : Int.toNat 2 = 2 := rfl
          have n3 : Int.toNat 3 = 3 := rfl
          rcases hcnt with ⟨hk, rfl, rfl⟩ | ⟨hk, rfl, rfl⟩ | ⟨hk, rfl, rfl⟩
          · repeat' (first
    | (with_reducible refine aw_seq ?_)
    | (with_reducible refine kont_in ?_; simp only [go_sem, reduceIte, Nat.reduceLT, Nat.reduceEqDiff, Nat.reduceAdd, Nat.reduceMul, Nat.reduceSub, Nat.reduceLeDiff, reduceCtorEq, hc, hw, hx, eeD_g3, hk, k1, k2, k3, k4, k5, k6, k7, k8, n1, n2, n3])
    | (with_reducible refine dKont_in ?_; simp only [go_sem, reduceIte, Nat.reduceLT, Nat.reduceEqDiff, Nat.reduceAdd, Nat.reduceMul, Nat.reduceSub, Nat.reduceLeDiff, reduceCtorEq, hc, hw, hx, eeD_g3, hk, k1, k2, k3, k4, k5, k6, k7, k8, n1, n2, n3])
    | (with_reducible refine aw_drw (by kernel_rfl) hK2 hD ?_; simp only [go_sem, reduceIte, Nat.reduceLT, Nat.reduceEqDiff, Nat.reduceAdd, Nat.reduceMul, Nat.reduceSub, Nat.reduceLeDiff, reduceCtorEq, hc, hw, hx, eeD_g3, hk, k1, k2, k3, k4, k5, k6, k7, k8, n1, n2, n3])
    | (with_reducible refine aw_reg hK ?_; simp only [go_sem, reduceIte, Nat.reduceLT, Nat.reduceEqDiff, Nat.reduceAdd, Nat.reduceMul, Nat.reduceSub, Nat.reduceLeDiff, reduceCtorEq, hc, hw, hx, eeD_g3, hk, k1, k2, k3, k4, k5, k6, k7, k8, n1, n2, n3])
    | (with_reducible refine aw_if ?_; simp only [go_sem, reduceIte, Nat.reduceLT, Nat.reduceEqDiff, Nat.reduceAdd, Nat.reduceMul, Nat.reduceSub, Nat.reduceLeDiff, reduceCtorEq, hc, hw, hx, eeD_g3, hk, k1, k2, k3, k4, k5, k6, k7, k8, n1, n2, n3])
    | (with_reducible refine aw_block ?_)
    | (with_reducible refine aw_ret ?_; (try simp only [thenQ, blockQ]); refine aw_ret' ?_; simp only [go_sem, reduceIte, Nat.reduceLT, Nat.reduceEqDiff, Nat.reduceAdd, Nat.reduceMul, Nat.reduceSub, Nat.reduceLeDiff, reduceCtorEq, hc, hw, hx, eeD_g3, hk, k1, k2, k3, k4, k5, k6, k7, k8, n1, n2, n3])
    | (with_reducible refine aw_exit ?_; simp only [thenQ, blockQ, reduceIte, Nat.reduceEqDiff])
    | (with_reducible refine aw_skip ?_; simp only [thenQ, blockQ])
    | (with_reducible refine gate_intro (fun h => ?_) (fun h => ?_) <;> simp only [h, go_sem, reduceIte, Nat.reduceLT, Nat.reduceEqDiff, Nat.reduceAdd, Nat.reduceMul, Nat.reduceSub, Nat.reduceLeDiff, reduceCtorEq, hc, hw, hx, eeD_g3, hk, k1, k2, k3, k4, k5, k6, k7, k8, n1, n2, n3] <;> (try simp only [decide_eq_true_eq, decide_eq_false_iff_not, Bool.not_true] at h))
    | (with_reducible refine chk_in (by kernel_rfl) ?_)
    | (with_reducible refine And.intro (And.intro (by omega) (by omega)) ?_)
    | (with_reducible refine And.intro (by omega) ?_)
    | (rw [get_in]; rotate_left; omega; simp only [go_sem, reduceIte, Nat.reduceLT, Nat.reduceEqDiff, Nat.reduceAdd, Nat.reduceMul, Nat.reduceSub, Nat.reduceLeDiff, reduceCtorEq, hc, hw, hx, eeD_g3, hk, k1, k2, k3, k4, k5, k6, k7, k8, n1, n2, n3])
    | fail)
            exact ⟨i + 1, weak_in [(101, 101), (102, 102), (103, 103)] (by repeat' (first | trivial | constructor | rfl)) (by repeat' (first | trivial | constructor | rfl)) (by rfl) (by rfl) (by rfl), hlt, by omega⟩
          · repeat' (first
    | (with_reducible refine aw_seq ?_)
    | (with_reducible refine kont_in ?_; simp only [go_sem, reduceIte, Nat.reduceLT, Nat.reduceEqDiff, Nat.reduceAdd, Nat.reduceMul, Nat.reduceSub, Nat.reduceLeDiff, reduceCtorEq, hc, hw, hx, eeD_g3, hk, k1, k2, k3, k4, k5, k6, k7, k8, n1, n2, n3])
    | (with_reducible refine dKont_in ?_; simp only [go_sem, reduceIte, Nat.reduceLT, Nat.reduceEqDiff, Nat.reduceAdd, Nat.reduceMul, Nat.reduceSub, Nat.reduceLeDiff, reduceCtorEq, hc, hw, hx, eeD_g3, hk, k1, k2, k3, k4, k5, k6, k7, k8, n1, n2, n3])
    | (with_reducible refine aw_drw (by kernel_rfl) hK2 hD ?_; simp only [go_sem, reduceIte, Nat.reduceLT, Nat.reduceEqDiff, Nat.reduceAdd, Nat.reduceMul, Nat.reduceSub, Nat.reduceLeDiff, reduceCtorEq, hc, hw, hx, eeD_g3, hk, k1, k2, k3, k4, k5, k6, k7, k8, n1, n2, n3])
    | (with_reducible refine aw_reg hK ?_; simp only [go_sem, reduceIte, Nat.reduceLT, Nat.reduceEqDiff, Nat.reduceAdd, Nat.reduceMul, Nat.reduceSub, Nat.reduceLeDiff, reduceCtorEq, hc, hw, hx, eeD_g3, hk, k1, k2, k3, k4, k5, k6, k7, k8, n1, n2, n3])
    | (with_reducible refine aw_if ?_; simp only [go_sem, reduceIte, Nat.reduceLT, Nat.reduceEqDiff, Nat.reduceAdd, Nat.reduceMul, Nat.reduceSub, Nat.reduceLeDiff, reduceCtorEq, hc, hw, hx, eeD_g3, hk, k1, k2, k3, k4, k5, k6, k7, k8, n1, n2, n3])
    | (with_reducible refine aw_block ?_)
    | (with_reducible refine aw_ret ?_; (try simp only [thenQ, blockQ]); refine aw_ret' ?_; simp only [go_sem, reduceIte, Nat.reduceLT, Nat.reduceEqDiff, Nat.reduceAdd, Nat.reduceMul, Nat.reduceSub, Nat.reduceLeDiff, reduceCtorEq, hc, hw, hx, eeD_g3, hk, k1, k2, k3, k4, k5, k6, k7, k8, n1, n2, n3])
    | (with_reducible refine aw_exit ?_; simp only [thenQ, blockQ, reduceIte, Nat.reduceEqDiff])
    | (with_reducible refine aw_skip ?_; simp only [thenQ, blockQ])
    | (with_reducible refine gate_intro (fun h => ?_) (fun h => ?_) <;> simp only [h, go_sem, reduceIte, Nat.reduceLT, Nat.reduceEqDiff, Nat.reduceAdd, Nat.reduceMul, Nat.reduceSub, Nat.reduceLeDiff, reduceCtorEq, hc, hw, hx, eeD_g3, hk, k1, k2, k3, k4, k5, k6, k7, k8, n1, n2, n3] <;> (try simp only [decide_eq_true_eq, decide_eq_false_iff_not, Bool.not_true] at h))
    | (with_reducible refine chk_in (by kernel_rfl) ?_)
    | (with_reducible refine And.intro (And.intro (by omega) (by omega)) ?_)
    | (with_reducible refine And.intro (by omega) ?_)
    | (rw [get_in]; rotate_left; omega; simp only [go_sem, reduceIte, Nat.reduceLT, Nat.reduceEqDiff, Nat.reduceAdd, Nat.reduceMul, Nat.reduceSub, Nat.reduceLeDiff, reduceCtorEq, hc, hw, hx, eeD_g3, hk, k1, k2, k3, k4, k5, k6, k7, k8, n1, n2, n3])
    | fail)
            exact ⟨i + 1, weak_in [(101, 101), (102, 102), (103, 103)] (by repeat' (first | trivial | constructor | rfl)) (by repeat' (first | trivial | constructor | rfl)) (by rfl) (by rfl) (by rfl), hlt, by omega⟩
          · repeat' (first
    | (with_reducible refine aw_seq ?_)
    | (with_reducible refine kont_in ?_; simp only [go_sem, reduceIte, Nat.reduceLT, Nat.reduceEqDiff, Nat.reduceAdd, Nat.reduceMul, Nat.reduceSub, Nat.reduceLeDiff, reduceCtorEq, hc, hw, hx, eeD_g3, hk, k1, k2, k3, k4, k5, k6, k7, k8, n1, n2, n3])
    | (with_reducible refine dKont_in ?_; simp only [go_sem, reduceIte, Nat.reduceLT, Nat.reduceEqDiff, Nat.reduceAdd, Nat.reduceMul, Nat.reduceSub, Nat.reduceLeDiff, reduceCtorEq, hc, hw, hx, eeD_g3, hk, k1, k2, k3, k4, k5, k6, k7, k8, n1, n2, n3])
    | (with_reducible refine aw_drw (by kernel_rfl) hK2 hD ?_; simp only [go_sem, reduceIte, Nat.reduceLT, Nat.reduceEqDiff, Nat.reduceAdd, Nat.reduceMul, Nat.reduceSub, Nat.reduceLeDiff, reduceCtorEq, hc, hw, hx, eeD_g3, hk, k1, k2, k3, k4, k5, k6, k7, k8, n1, n2, n3])
    | (with_reducible refine aw_reg hK ?_; simp only [go_sem, reduceIte, Nat.reduceLT, Nat.reduceEqDiff, Nat.reduceAdd, Nat.reduceMul, Nat.reduceSub, Nat.reduceLeDiff, reduceCtorEq, hc, hw, hx, eeD_g3, hk, k1, k2, k3, k4, k5, k6, k7, k8, n1, n2, n3])
    | (with_reducible refine aw_if ?_; simp only [go_sem, reduceIte, Nat.reduceLT, Nat.reduceEqDiff, Nat.reduceAdd, Nat.reduceMul, Nat.reduceSub, Nat.reduceLeDiff, reduceCtorEq, hc, hw, hx, eeD_g3, hk, k1, k2, k3, k4, k5, k6, k7, k8, n1, n2, n3])
    | (with_reducible refine aw_block ?_)
    | (with_reducible refine aw_ret ?_; (try simp only [thenQ, blockQ]); refine aw_ret' ?_; simp only [go_sem, reduceIte, Nat.reduceLT, Nat.reduceEqDiff, Nat.reduceAdd, Nat.reduceMul, Nat.reduceSub, Nat.reduceLeDiff, reduceCtorEq, hc, hw, hx, eeD_g3, hk, k1, k2, k3, k4, k5, k6, k7, k8, n1, n2, n3])
    | (with_reducible refine aw_exit ?_; simp only [thenQ, blockQ, reduceIte, Nat.reduceEqDiff])
    | (with_reducible refine aw_skip ?_; simp only [thenQ, blockQ])
    | (with_reducible refine gate_intro (fun h => ?_) (fun h => ?_) <;> simp only [h, go_sem, reduceIte, Nat.reduceLT, Nat.reduceEqDiff, Nat.reduceAdd, Nat.reduceMul, Nat.reduceSub, Nat.reduceLeDiff, reduceCtorEq, hc, hw, hx, eeD_g3, hk, k1, k2, k3, k4, k5, k6, k7, k8, n1, n2, n3] <;> (try simp only [decide_eq_true_eq, decide_eq_false_iff_not, Bool.not_true] at h))
    | (with_reducible refine chk_in (by kernel_rfl) ?_)
    | (with_reducible refine And.intro (And.intro (by omega) (by omega)) ?_)
    | (with_reducible refine And.intro (by omega) ?_)
    | (rw [get_in]; rotate_left; omega; simp only [go_sem, reduceIte, Nat.reduceLT, Nat.reduceEqDiff, Nat.reduceAdd, Nat.reduceMul, Nat.reduceSub, Nat.reduceLeDiff, reduceCtorEq, hc, hw, hx, eeD_g3, hk, k1, k2, k3, k4, k5, k6, k7, k8, n1, n2, n3])
    | fail)
            exact ⟨i + 1, weak_in [(101, 101), (102, 102), (103, 103)] (by repeat' (first | trivial | constructor | rfl)) (by repeat' (first | trivial | constructor | rfl)) (by rfl) (by rfl) (by rfl), hlt, by omega⟩
        | some r =>
          have hlk : k < m.length := (List.getElem?_eq_some_iff.1 hr).1
          have hc : decide ((k : Int) < (m.length : Int)) = true := by simp <;> omega
          have hwk := wrS (i := k) (by omega)
          have hgs := gone_step (m := a) hr
          have hgl := gone_le (m.take k) a
          rw [List.length_take] at hgl
          have hwg := wrS (i := (goneE (m.take k) a).length) (by omega)
          rcases fin_is hA r with ⟨y, hfy, hyr⟩ | ⟨hfy, hrm⟩
          · by_cases hrm : r ∈ a
            · have hy : y = r := hyr.2 hrm
              subst hy
              repeat' (first
    | (with_reducible refine aw_seq ?_)
    | (with_reducible refine kont_in ?_; simp only [go_sem, reduceIte, Nat.reduceLT, Nat.reduceEqDiff, Nat.reduceAdd, Nat.reduceMul, Nat.reduceSub, Nat.reduceLeDiff, reduceCtorEq, hc, hwk, hr, hfy, erD_g0, erD_g2, erD_eqc, eq_self, decide_true, Option.getD_some, s1, c1, i1, s2, c2, s3, c3, s5, c5])
    | (with_reducible refine dKont_in ?_; simp only [go_sem, reduceIte, Nat.reduceLT, Nat.reduceEqDiff, Nat.reduceAdd, Nat.reduceMul, Nat.reduceSub, Nat.reduceLeDiff, reduceCtorEq, hc, hwk, hr, hfy, erD_g0, erD_g2, erD_eqc, eq_self, decide_true, Option.getD_some, s1, c1, i1, s2, c2, s3, c3, s5, c5])
    | (with_reducible refine aw_drw (by kernel_rfl) hK2 hD ?_; simp only [go_sem, reduceIte, Nat.reduceLT, Nat.reduceEqDiff, Nat.reduceAdd, Nat.reduceMul, Nat.reduceSub, Nat.reduceLeDiff, reduceCtorEq, hc, hwk, hr, hfy, erD_g0, erD_g2, erD_eqc, eq_self, decide_true, Option.getD_some, s1, c1, i1, s2, c2, s3, c3, s5, c5])
    | (with_reducible refine aw_reg hK ?_; simp only [go_sem, reduceIte, Nat.reduceLT, Nat.reduceEqDiff, Nat.reduceAdd, Nat.reduceMul, Nat.reduceSub, Nat.reduceLeDiff, reduceCtorEq, hc, hwk, hr, hfy, erD_g0, erD_g2, erD_eqc, eq_self, decide_true, Option.getD_some, s1, c1, i1, s2, c2, s3, c3, s5, c5])
    | (with_reducible refine aw_if ?_; simp only [go_sem, reduceIte, Nat.reduceLT, Nat.reduceEqDiff, Nat.reduceAdd, Nat.reduceMul, Nat.reduceSub, Nat.reduceLeDiff, reduceCtorEq, hc, hwk, hr, hfy, erD_g0, erD_g2, erD_eqc, eq_self, decide_true, Option.getD_some, s1, c1, i1, s2, c2, s3, c3, s5, c5])
    | (with_reducible refine aw_block ?_)
    | (with_reducible refine aw_ret ?_; (try simp only [thenQ, blockQ]); refine aw_ret' ?_; simp only [go_sem, reduceIte, Nat.reduceLT, Nat.reduceEqDiff, Nat.reduceAdd, Nat.reduceMul, Nat.reduceSub, Nat.reduceLeDiff, reduceCtorEq, hc, hwk, hr, hfy, erD_g0, erD_g2, erD_eqc, eq_self, decide_true, Option.getD_some, s1, c1, i1, s2, c2, s3, c3, s5, c5])
    | (with_reducible refine aw_exit ?_; simp only [thenQ, blockQ, reduceIte, Nat.reduceEqDiff])
    | (with_reducible refine aw_skip ?_; simp only [thenQ, blockQ])
    | (with_reducible refine gate_intro (fun h => ?_) (fun h => ?_) <;> simp only [h, go_sem, reduceIte, Nat.reduceLT, Nat.reduceEqDiff, Nat.reduceAdd, Nat.reduceMul, Nat.reduceSub, Nat.reduceLeDiff, reduceCtorEq, hc, hwk, hr, hfy, erD_g0, erD_g2, erD_eqc, eq_self, decide_true, Option.getD_some, s1, c1, i1, s2, c2, s3, c3, s5, c5] <;> (try simp only [decide_eq_true_eq, decide_eq_false_iff_not, Bool.not_true] at h))
    | (with_reducible refine chk_in (by kernel_rfl) ?_)
    | (with_reducible refine And.intro (And.intro (by omega) (by omega)) ?_)
    | (with_reducible refine And.intro (by omega) ?_)
    | (refine fi_call rfl a y.1.1 y.1.2.2 rfl (by omega) (memOf_free rfl) ?_)
    | (rw [get_in]; rotate_left; omega; simp only [go_sem, reduceIte, Nat.reduceLT, Nat.reduceEqDiff, Nat.reduceAdd, Nat.reduceMul, Nat.reduceSub, Nat.reduceLeDiff, reduceCtorEq, hc, hwk, hr, hfy, erD_g0, erD_g2, erD_eqc, eq_self, decide_true, Option.getD_some, s1, c1, i1, s2, c2, s3, c3, s5, c5])
    | fail)
              refine ⟨k + 1, ?_, hlk, by omega⟩
              rw [hgs, if_pos hrm, List.append_nil]
              exact weak_in [(101, 101), (102, 102), (103, 103), (104, 104)] (by repeat' (first | trivial | constructor | rfl)) (by repeat' (first | trivial | constructor | rfl)) (by rfl) (by rfl) (by rfl)
            · have hy : decide (y = r) = false := decide_eq_false fun h => hrm (hyr.1 h)
              repeat' (first
    | (with_reducible refine aw_seq ?_)
    | (with_reducible refine kont_in ?_; simp only [go_sem, reduceIte, Nat.reduceLT, Nat.reduceEqDiff, Nat.reduceAdd, Nat.reduceMul, Nat.reduceSub, Nat.reduceLeDiff, reduceCtorEq, hc, hwk, hwg, hr, hfy, hy, erD_g0, erD_g2, erD_eqc, Option.getD_some, s1, c1, i1, s2, c2, s3, c3, s5, c5])
    | (with_reducible refine dKont_in ?_; simp only [go_sem, reduceIte, Nat.reduceLT, Nat.reduceEqDiff, Nat.reduceAdd, Nat.reduceMul, Nat.reduceSub, Nat.reduceLeDiff, reduceCtorEq, hc, hwk, hwg, hr, hfy, hy, erD_g0, erD_g2, erD_eqc, Option.getD_some, s1, c1, i1, s2, c2, s3, c3, s5, c5])
    | (with_reducible refine aw_drw (by kernel_rfl) hK2 hD ?_; simp only [go_sem, reduceIte, Nat.reduceLT, Nat.reduceEqDiff, Nat.reduceAdd, Nat.reduceMul, Nat.reduceSub, Nat.reduceLeDiff, reduceCtorEq, hc, hwk, hwg, hr, hfy, hy, erD_g0, erD_g2, erD_eqc, Option.getD_some, s1, c1, i1, s2, c2, s3, c3, s5, c5])
    | (with_reducible refine aw_reg hK ?_; simp only [go_sem, reduceIte, Nat.reduceLT, Nat.reduceEqDiff, Nat.reduceAdd, Nat.reduceMul, Nat.reduceSub, Nat.reduceLeDiff, reduceCtorEq, hc, hwk, hwg, hr, hfy, hy, erD_g0, erD_g2, erD_eqc, Option.getD_some, s1, c1, i1, s2, c2, s3, c3, s5, c5])
    | (with_reducible refine aw_if ?_; simp only [go_sem, reduceIte, Nat.reduceLT, Nat.reduceEqDiff, Nat.reduceAdd, Nat.reduceMul, Nat.reduceSub, Nat.reduceLeDiff, reduceCtorEq, hc, hwk, hwg, hr, hfy, hy, erD_g0, erD_g2, erD_eqc, Option.getD_some, s1, c1, i1, s2, c2, s3, c3, s5, c5])
    | (with_reducible refine aw_block ?_)
    | (with_reducible refine aw_ret ?_; (try simp only [thenQ, blockQ]); refine aw_ret' ?_; simp only [go_sem, reduceIte, Nat.reduceLT, Nat.reduceEqDiff, Nat.reduceAdd, Nat.reduceMul, Nat.reduceSub, Nat.reduceLeDiff, reduceCtorEq, hc, hwk, hwg, hr, hfy, hy, erD_g0, erD_g2, erD_eqc, Option.getD_some, s1, c1, i1, s2, c2, s3, c3, s5, c5])
    | (with_reducible refine aw_exit ?_; simp only [thenQ, blockQ, reduceIte, Nat.reduceEqDiff])
    | (with_reducible refine aw_skip ?_; simp only [thenQ, blockQ])
    | (with_reducible refine gate_intro (fun h => ?_) (fun h => ?_) <;> simp only [h, go_sem, reduceIte, Nat.reduceLT, Nat.reduceEqDiff, Nat.reduceAdd, Nat.reduceMul, Nat.reduceSub, Nat.reduceLeDiff, reduceCtorEq, hc, hwk, hwg, hr, hfy, hy, erD_g0, erD_g2, erD_eqc, Option.getD_some, s1, c1, i1, s2, c2, s3, c3, s5, c5] <;> (try simp only [decide_eq_true_eq, decide_eq_false_iff_not, Bool.not_true] at h))
    | (with_reducible refine chk_in (by kernel_rfl) ?_)
    | (with_reducible refine And.intro (And.intro (by omega) (by omega)) ?_)
    | (with_reducible refine And.intro (by omega) ?_)
    | (refine fi_call rfl a r.1.1 r.1.2.2 rfl (by omega) (memOf_free rfl) ?_)
    | (rw [get_in]; rotate_left; omega; simp only [go_sem, reduceIte, Nat.reduceLT, Nat.reduceEqDiff, Nat.reduceAdd, Nat.reduceMul, Nat.reduceSub, Nat.reduceLeDiff, reduceCtorEq, hc, hwk, hwg, hr, hfy, hy, erD_g0, erD_g2, erD_eqc, Option.getD_some, s1, c1, i1, s2, c2, s3, c3, s5, c5])
    | fail)
              refine ⟨k + 1, ?_, hlk, by omega⟩
              rw [hgs, if_neg hrm, List.length_append, List.length_singleton]
              exact weak_in [(101, 101), (102, 102), (103, 103), (104, 104)] (by repeat' (first | trivial | constructor | rfl)) (by repeat' (first | trivial | constructor | rfl)) (by rfl) (by rfl) (by rfl)
          · repeat' (first
    | (with_reducible refine aw_seq ?_)
    | (with_reducible refine kont_in ?_; simp only [go_sem, reduceIte, Nat.reduceLT, Nat.reduceEqDiff, Nat.reduceAdd, Nat.reduceMul, Nat.reduceSub, Nat.reduceLeDiff, reduceCtorEq, hc, hwk, hwg, hr, hfy, erD_g0, erD_g2, Option.getD_none, s1, c1, i1, s2, c2, s3, c3, s5, c5, Option.isSome_none])
    | (with_reducible refine dKont_in ?_; simp only [go_sem, reduceIte, Nat.reduceLT, Nat.reduceEqDiff, Nat.reduceAdd, Nat.reduceMul, Nat.reduceSub, Nat.reduceLeDiff, reduceCtorEq, hc, hwk, hwg, hr, hfy, erD_g0, erD_g2, Option.getD_none, s1, c1, i1, s2, c2, s3, c3, s5, c5, Option.isSome_none])
    | (with_reducible refine aw_drw (by kernel_rfl) hK2 hD ?_; simp only [go_sem, reduceIte, Nat.reduceLT, Nat.reduceEqDiff, Nat.reduceAdd, Nat.reduceMul, Nat.reduceSub, Nat.reduceLeDiff, reduceCtorEq, hc, hwk, hwg, hr, hfy, erD_g0, erD_g2, Option.getD_none, s1, c1, i1, s2, c2, s3, c3, s5, c5, Option.isSome_none])
    | (with_reducible refine aw_reg hK ?_; simp only [go_sem, reduceIte, Nat.reduceLT, Nat.reduceEqDiff, Nat.reduceAdd, Nat.reduceMul, Nat.reduceSub, Nat.reduceLeDiff, reduceCtorEq, hc, hwk, hwg, hr, hfy, erD_g0, erD_g2, Option.getD_none, s1, c1, i1, s2, c2, s3, c3, s5, c5, Option.isSome_none])
    | (with_reducible refine aw_if ?_; simp only [go_sem, reduceIte, Nat.reduceLT, Nat.reduceEqDiff, Nat.reduceAdd, Nat.reduceMul, Nat.reduceSub, Nat.reduceLeDiff, reduceCtorEq, hc, hwk, hwg, hr, hfy, erD_g0, erD_g2, Option.getD_none, s1, c1, i1, s2, c2, s3, c3, s5, c5, Option.isSome_none])
    | (with_reducible refine aw_block ?_)
    | (with_reducible refine aw_ret ?_; (try simp only [thenQ, blockQ]); refine aw_ret' ?_; simp only [go_sem, reduceIte, Nat.reduceLT, Nat.reduceEqDiff, Nat.reduceAdd, Nat.reduceMul, Nat.reduceSub, Nat.reduceLeDiff, reduceCtorEq, hc, hwk, hwg, hr, hfy, erD_g0, erD_g2, Option.getD_none, s1, c1, i1, s2, c2, s3, c3, s5, c5, Option.isSome_none])
    | (with_reducible refine aw_exit ?_; simp only [thenQ, blockQ, reduceIte, Nat.reduceEqDiff])
    | (with_reducible refine aw_skip ?_; simp only [thenQ, blockQ])
    | (with_reducible refine gate_intro (fun h => ?_) (fun h => ?_) <;> simp only [h, go_sem, reduceIte, Nat.reduceLT, Nat.reduceEqDiff, Nat.reduceAdd, Nat.reduceMul, Nat.reduceSub, Nat.reduceLeDiff, reduceCtorEq, hc, hwk, hwg, hr, hfy, erD_g0, erD_g2, Option.getD_none, s1, c1, i1, s2, c2, s3, c3, s5, c5, Option.isSome_none] <;> (try simp only [decide_eq_true_eq, decide_eq_false_iff_not, Bool.not_true] at h))
    | (with_reducible refine chk_in (by kernel_rfl) ?_)
    | (with_reducible refine And.intro (And.intro (by omega) (by omega)) ?_)
    | (with_reducible refine And.intro (by omega) ?_)
    | (refine fi_call rfl a r.1.1 r.1.2.2 rfl (by omega) (memOf_free rfl) ?_)
    | (rw [get_in]; rotate_left; omega; simp only [go_sem, reduceIte, Nat.reduceLT, Nat.reduceEqDiff, Nat.reduceAdd, Nat.reduceMul, Nat.reduceSub, Nat.reduceLeDiff, reduceCtorEq, hc, hwk, hwg, hr, hfy, erD_g0, erD_g2, Option.getD_none, s1, c1, i1, s2, c2, s3, c3, s5, c5, Option.isSome_none])
    | fail)
            refine ⟨k + 1, ?_, hlk, by omega⟩
            rw [hgs, if_neg hrm, List.length_append, List.length_singleton]
            exact weak_in [(101, 101), (102, 102), (103, 103), (104, 104)] (by repeat' (first | trivial | constructor | rfl)) (by repeat' (first | trivial | constructor | rfl)) (by rfl) (by rfl) (by rfl)
      | some r =>
        have hlk : k < a.length := (List.getElem?_eq_some_iff.1 hr).1
        have hc : decide ((k : Int) < (a.length : Int)) = true := by simp <;> omega
        have hwk := wrS (i := k) (by omega)
        have hgs := gone_step (m := m) hr
        have hgl := gone_le (a.take k) m
        rw [List.length_take] at hgl
        have hwg := wrS (i := (goneE (a.take k) m).length) (by omega)
        have hsr := hsrc r (List.mem_of_getElem? hr)
        rcases fin_is hAm r with ⟨y, hfy, hyr⟩ | ⟨hfy, hrm⟩
        · by_cases hrm : r ∈ m
          · have hy : y = r := hyr.2 hrm
            subst hy
            repeat' (first
    | (with_reducible refine aw_seq ?_)
    | (with_reducible refine kont_in ?_; simp only [go_sem, reduceIte, Nat.reduceLT, Nat.reduceEqDiff, Nat.reduceAdd, Nat.reduceMul, Nat.reduceSub, Nat.reduceLeDiff, reduceCtorEq, hc, hwk, hr, hfy, erD_g0, erD_g2, erD_eqc, eq_self, decide_true, Option.getD_some, s1, c1, i1, s2, c2, s3, c3, s5, c5])
    | (with_reducible refine dKont_in ?_; simp only [go_sem, reduceIte, Nat.reduceLT, Nat.reduceEqDiff, Nat.reduceAdd, Nat.reduceMul, Nat.reduceSub, Nat.reduceLeDiff, reduceCtorEq, hc, hwk, hr, hfy, erD_g0, erD_g2, erD_eqc, eq_self, decide_true, Option.getD_some, s1, c1, i1, s2, c2, s3, c3, s5, c5])
    | (with_reducible refine aw_drw (by kernel_rfl) hK2 hD ?_; simp only [go_sem, reduceIte, Nat.reduceLT, Nat.reduceEqDiff, Nat.reduceAdd, Nat.reduceMul, Nat.reduceSub, Nat.reduceLeDiff, reduceCtorEq, hc, hwk, hr, hfy, erD_g0, erD_g2, erD_eqc, eq_self, decide_true, Option.getD_some, s1, c1, i1, s2, c2, s3, c3, s5, c5])
    | (with_reducible refine aw_reg hK ?_; simp only [go_sem, reduceIte, Nat.reduceLT, Nat.reduceEqDiff, Nat.reduceAdd, Nat.reduceMul, Nat.reduceSub, Nat.reduceLeDiff, reduceCtorEq, hc, hwk, hr, hfy, erD_g0, erD_g2, erD_eqc, eq_self, decide_true, Option.getD_some, s1, c1, i1, s2, c2, s3, c3, s5, c5])
    | (with_reducible refine aw_if ?_; simp only [go_sem, reduceIte, Nat.reduceLT, Nat.reduceEqDiff, Nat.reduceAdd, Nat.reduceMul, Nat.reduceSub, Nat.reduceLeDiff, reduceCtorEq, hc, hwk, hr, hfy, erD_g0, erD_g2, erD_eqc, eq_self, decide_true, Option.getD_some, s1, c1, i1, s2, c2, s3, c3, s5, c5])
    | (with_reducible refine aw_block ?_)
    | (with_reducible refine aw_ret ?_; (try simp only [thenQ, blockQ]); refine aw_ret' ?_; simp only [go_sem, reduceIte, Nat.reduceLT, Nat.reduceEqDiff, Nat.reduceAdd, Nat.reduceMul, Nat.reduceSub, Nat.reduceLeDiff, reduceCtorEq, hc, hwk, hr, hfy, erD_g0, erD_g2, erD_eqc, eq_self, decide_true, Option.getD_some, s1, c1, i1, s2, c2, s3, c3, s5, c5])
    | (with_reducible refine aw_exit ?_; simp only [thenQ, blockQ, reduceIte, Nat.reduceEqDiff])
    | (with_reducible refine aw_skip ?_; simp only [thenQ, blockQ])
    | (with_reducible refine gate_intro (fun h => ?_) (fun h => ?_) <;> simp only [h, go_sem, reduceIte, Nat.reduceLT, Nat.reduceEqDiff, Nat.reduceAdd, Nat.reduceMul, Nat.reduceSub, Nat.reduceLeDiff, reduceCtorEq, hc, hwk, hr, hfy, erD_g0, erD_g2, erD_eqc, eq_self, decide_true, Option.getD_some, s1, c1, i1, s2, c2, s3, c3, s5, c5] <;> (try simp only [decide_eq_true_eq, decide_eq_false_iff_not, Bool.not_true] at h))
    | (with_reducible refine chk_in (by kernel_rfl) ?_)
    | (with_reducible refine And.intro (And.intro (by omega) (by omega)) ?_)
    | (with_reducible refine And.intro (by omega) ?_)
    | (refine fi_call rfl m y.1.1 y.1.2.2 rfl (by omega) (memOf_free rfl) ?_)
    | (rw [get_in]; rotate_left; omega; simp only [go_sem, reduceIte, Nat.reduceLT, Nat.reduceEqDiff, Nat.reduceAdd, Nat.reduceMul, Nat.reduceSub, Nat.reduceLeDiff, reduceCtorEq, hc, hwk, hr, hfy, erD_g0, erD_g2, erD_eqc, eq_self, decide_true, Option.getD_some, s1, c1, i1, s2, c2, s3, c3, s5, c5])
    | fail)
            refine ⟨k + 1, ?_, hlk, by omega⟩
            rw [hgs, if_pos hrm, List.append_nil]
            exact weak_in [(101, 101), (102, 102), (103, 103), (104, 104)] (by repeat' (first | trivial | constructor | rfl)) (by repeat' (first | trivial | constructor | rfl)) (by rfl) (by rfl) (by rfl)
          · have hy : decide (y = r) = false := decide_eq_false fun h => hrm (hyr.1 h)
            have hsr := hsr hrm
            repeat' (first
    | (with_reducible refine aw_seq ?_)
    | (with_reducible refine kont_in ?_; simp only [go_sem, reduceIte, Nat.reduceLT, Nat.reduceEqDiff, Nat.reduceAdd, Nat.reduceMul, Nat.reduceSub, Nat.reduceLeDiff, reduceCtorEq, hc, hwk, hwg, hr, hx, hfy, hy, erD_g0, erD_g1, erD_g2, erD_eqc, eeD_g1, Option.getD_some, s1, c1, i1, s2, c2, s3, c3, s5, c5])
    | (with_reducible refine dKont_in ?_; simp only [go_sem, reduceIte, Nat.reduceLT, Nat.reduceEqDiff, Nat.reduceAdd, Nat.reduceMul, Nat.reduceSub, Nat.reduceLeDiff, reduceCtorEq, hc, hwk, hwg, hr, hx, hfy, hy, erD_g0, erD_g1, erD_g2, erD_eqc, eeD_g1, Option.getD_some, s1, c1, i1, s2, c2, s3, c3, s5, c5])
    | (with_reducible refine aw_drw (by kernel_rfl) hK2 hD ?_; simp only [go_sem, reduceIte, Nat.reduceLT, Nat.reduceEqDiff, Nat.reduceAdd, Nat.reduceMul, Nat.reduceSub, Nat.reduceLeDiff, reduceCtorEq, hc, hwk, hwg, hr, hx, hfy, hy, erD_g0, erD_g1, erD_g2, erD_eqc, eeD_g1, Option.getD_some, s1, c1, i1, s2, c2, s3, c3, s5, c5])
    | (with_reducible refine aw_reg hK ?_; simp only [go_sem, reduceIte, Nat.reduceLT, Nat.reduceEqDiff, Nat.reduceAdd, Nat.reduceMul, Nat.reduceSub, Nat.reduceLeDiff, reduceCtorEq, hc, hwk, hwg, hr, hx, hfy, hy, erD_g0, erD_g1, erD_g2, erD_eqc, eeD_g1, Option.getD_some, s1, c1, i1, s2, c2, s3, c3, s5, c5])
    | (with_reducible refine aw_if ?_; simp only [go_sem, reduceIte, Nat.reduceLT, Nat.reduceEqDiff, Nat.reduceAdd, Nat.reduceMul, Nat.reduceSub, Nat.reduceLeDiff, reduceCtorEq, hc, hwk, hwg, hr, hx, hfy, hy, erD_g0, erD_g1, erD_g2, erD_eqc, eeD_g1, Option.getD_some, s1, c1, i1, s2, c2, s3, c3, s5, c5])
    | (with_reducible refine aw_block ?_)
    | (with_reducible refine aw_ret ?_; (try simp only [thenQ, blockQ]); refine aw_ret' ?_; simp only [go_sem, reduceIte, Nat.reduceLT, Nat.reduceEqDiff, Nat.reduceAdd, Nat.reduceMul, Nat.reduceSub, Nat.reduceLeDiff, reduceCtorEq, hc, hwk, hwg, hr, hx, hfy, hy, erD_g0, erD_g1, erD_g2, erD_eqc, eeD_g1, Option.getD_some, s1, c1, i1, s2, c2, s3, c3, s5, c5])
    | (with_reducible refine aw_exit ?_; simp only [thenQ, blockQ, reduceIte, Nat.reduceEqDiff])
    | (with_reducible refine aw_skip ?_; simp only [thenQ, blockQ])
    | (with_reducible refine gate_intro (fun h => ?_) (fun h => ?_) <;> simp only [h, go_sem, reduceIte, Nat.reduceLT, Nat.reduceEqDiff, Nat.reduceAdd, Nat.reduceMul, Nat.reduceSub, Nat.reduceLeDiff, reduceCtorEq, hc, hwk, hwg, hr, hx, hfy, hy, erD_g0, erD_g1, erD_g2, erD_eqc, eeD_g1, Option.getD_some, s1, c1, i1, s2, c2, s3, c3, s5, c5] <;> (try simp only [decide_eq_true_eq, decide_eq_false_iff_not, Bool.not_true] at h))
    | (with_reducible refine chk_in (by kernel_rfl) ?_)
    | (with_reducible refine And.intro (And.intro (by omega) (by omega)) ?_)
    | (with_reducible refine And.intro (by omega) ?_)
    | (refine fi_call rfl m r.1.1 r.1.2.2 rfl (by omega) (memOf_free rfl) ?_)
    | (rw [get_in]; rotate_left; omega; simp only [go_sem, reduceIte, Nat.reduceLT, Nat.reduceEqDiff, Nat.reduceAdd, Nat.reduceMul, Nat.reduceSub, Nat.reduceLeDiff, reduceCtorEq, hc, hwk, hwg, hr, hx, hfy, hy, erD_g0, erD_g1, erD_g2, erD_eqc, eeD_g1, Option.getD_some, s1, c1, i1, s2, c2, s3, c3, s5, c5])
    | fail)
            · rename_i g; exfalso; simp at g h; omega
            · refine ⟨k + 1, ?_, hlk, by omega⟩
              rw [hgs, if_neg hrm, List.length_append, List.length_singleton]
              exact weak_in [(101, 101), (102, 102), (103, 103), (104, 104)] (by repeat' (first | trivial | constructor | rfl)) (by repeat' (first | trivial | constructor | rfl)) (by rfl) (by rfl) (by rfl)
            · refine ⟨k + 1, ?_, hlk, by omega⟩
              rw [hgs, if_neg hrm, List.length_append, List.length_singleton]
              exact weak_in [(101, 101), (102, 102), (103, 103), (104, 104)] (by repeat' (first | trivial | constructor | rfl)) (by repeat' (first | trivial | constructor | rfl)) (by rfl) (by rfl) (by rfl)
        · have hsr := hsr hrm
          repeat' (first
    | (with_reducible refine aw_seq ?_)
    | (with_reducible refine kont_in ?_; simp only [go_sem, reduceIte, Nat.reduceLT, Nat.reduceEqDiff, Nat.reduceAdd, Nat.reduceMul, Nat.reduceSub, Nat.reduceLeDiff, reduceCtorEq, hc, hwk, hwg, hr, hx, hfy, erD_g0, erD_g1, erD_g2, eeD_g1, Option.getD_none, s1, c1, i1, s2, c2, s3, c3, s5, c5, Option.isSome_none])
    | (with_reducible refine dKont_in ?_; simp only [go_sem, reduceIte, Nat.reduceLT, Nat.reduceEqDiff, Nat.reduceAdd, Nat.reduceMul, Nat.reduceSub, Nat.reduceLeDiff, reduceCtorEq, hc, hwk, hwg, hr, hx, hfy, erD_g0, erD_g1, erD_g2, eeD_g1, Option.getD_none, s1, c1, i1, s2, c2, s3, c3, s5, c5, Option.isSome_none])
    | (with_reducible refine aw_drw (by kernel_rfl) hK2 hD ?_; simp only [go_sem, reduceIte, Nat.reduceLT, Nat.reduceEqDiff, Nat.reduceAdd, Nat.reduceMul, Nat.reduceSub, Nat.reduceLeDiff, reduceCtorEq, hc, hwk, hwg, hr, hx, hfy, erD_g0, erD_g1, erD_g2, eeD_g1, Option.getD_none, s1, c1, i1, s2, c2, s3, c3, s5, c5, Option.isSome_none])
    | (with_reducible refine aw_reg hK ?_; simp only [go_sem, reduceIte, Nat.reduceLT, Nat.reduceEqDiff, Nat.reduceAdd, Nat.reduceMul, Nat.reduceSub, Nat.reduceLeDiff, reduceCtorEq, hc, hwk, hwg, hr, hx, hfy, erD_g0, erD_g1, erD_g2, eeD_g1, Option.getD_none, s1, c1, i1, s2, c2, s3, c3, s5, c5, Option.isSome_none])
    | (with_reducible refine aw_if ?_; simp only [go_sem, reduceIte, Nat.reduceLT, Nat.reduceEqDiff, Nat.reduceAdd, Nat.reduceMul, Nat.reduceSub, Nat.reduceLeDiff, reduceCtorEq, hc, hwk, hwg, hr, hx, hfy, erD_g0, erD_g1, erD_g2, eeD_g1, Option.getD_none, s1, c1, i1, s2, c2, s3, c3, s5, c5, Option.isSome_none])
    | (with_reducible refine aw_block ?_)
    | (with_reducible refine aw_ret ?_; (try simp only [thenQ, blockQ]); refine aw_ret' ?_; simp only [go_sem, reduceIte, Nat.reduceLT, Nat.reduceEqDiff, Nat.reduceAdd, Nat.reduceMul, Nat.reduceSub, Nat.reduceLeDiff, reduceCtorEq, hc, hwk, hwg, hr, hx, hfy, erD_g0, erD_g1, erD_g2, eeD_g1, Option.getD_none, s1, c1, i1, s2, c2, s3, c3, s5, c5, Option.isSome_none])
    | (with_reducible refine aw_exit ?_; simp only [thenQ, blockQ, reduceIte, Nat.reduceEqDiff])
    | (with_reducible refine aw_skip ?_; simp only [thenQ, blockQ])
    | (with_reducible refine gate_intro (fun h => ?_) (fun h => ?_) <;> simp only [h, go_sem, reduceIte, Nat.reduceLT, Nat.reduceEqDiff, Nat.reduceAdd, Nat.reduceMul, Nat.reduceSub, Nat.reduceLeDiff, reduceCtorEq, hc, hwk, hwg, hr, hx, hfy, erD_g0, erD_g1, erD_g2, eeD_g1, Option.getD_none, s1, c1, i1, s2, c2, s3, c3, s5, c5, Option.isSome_none] <;> (try simp only [decide_eq_true_eq, decide_eq_false_iff_not, Bool.not_true] at h))
    | (with_reducible refine chk_in (by kernel_rfl) ?_)
    | (with_reducible refine And.intro (And.intro (by omega) (by omega)) ?_)
    | (with_reducible refine And.intro (by omega) ?_)
    | (refine fi_call rfl m r.1.1 r.1.2.2 rfl (by omega) (memOf_free rfl) ?_)
    | (rw [get_in]; rotate_left; omega; simp only [go_sem, reduceIte, Nat.reduceLT, Nat.reduceEqDiff, Nat.reduceAdd, Nat.reduceMul, Nat.reduceSub, Nat.reduceLeDiff, reduceCtorEq, hc, hwk, hwg, hr, hx, hfy, erD_g0, erD_g1, erD_g2, eeD_g1, Option.getD_none, s1, c1, i1, s2, c2, s3, c3, s5, c5, Option.isSome_none])
    | fail)
          · rename_i g; exfalso; simp at g h; omega
          · refine ⟨k + 1, ?_, hlk, by omega⟩
            rw [hgs, if_neg hrm, List.length_append, List.length_singleton]
            exact weak_in [(101, 101), (102, 102), (103, 103), (104, 104)] (by repeat' (first | trivial | constructor | rfl)) (by repeat' (first | trivial | constructor | rfl)) (by rfl) (by rfl) (by rfl)
          · refine ⟨k + 1, ?_, hlk, by omega⟩
            rw [hgs, if_neg hrm, List.length_append, List.length_singleton]
            exact weak_in [(101, 101), (102, 102), (103, 103), (104, 104)] (by repeat' (first | trivial | constructor | rfl)) (by repeat' (first | trivial | constructor | rfl)) (by rfl) (by rfl) (by rfl)
end Go.Proofs.R1
