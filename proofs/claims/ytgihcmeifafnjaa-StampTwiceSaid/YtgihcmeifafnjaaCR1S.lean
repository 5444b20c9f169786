/- Laws: any order, twice, many. -/
import Derived.Test.YtgihcmeifafnjaaCR1R
set_option linter.unusedVariables false
set_option linter.unusedSimpArgs false
set_option maxRecDepth 8000
set_option maxHeartbeats 8000000
namespace Go.Proofs.R1
open Go Go.Abs

theorem canR_small {l : List St} {c : List Int} (h : l.length ≤ 300) (hc : c.length = l.length) : canR l c = (natI (canF l c), 0) := by
  have := canF_len l c
  unfold canR
  rw [if_neg (by simp [hc]), if_neg (by omega)]
theorem stAt_at0 (l : List St) (n : Nat) : at0 l n = stAt l n := rfl
theorem inAt_at0 (l : List Int) (n : Nat) : at0 l n = inAt l n := rfl

abbrev oneLawC : Con := lawC (List Int) (fun a => [.d (.sl 1 (intL a))]) (fun a => a.length ≤ 9223372036854775807) [false]
theorem anyOrder_ok : CallOk Try.prog 7 oneLawC := by
  refine ok_of_body' 148 1 Try.func7 rfl (by decide) Try.ntmps7 (by intro a h; exact ⟨rfl, rfl⟩) (by decide) (by rintro _ a r _ rfl; rfl) ?_
  rintro tl h1
  simp only [lawC] at h1 ⊢
  simp only [initE, initMm, List.length_cons, List.length_nil, Nat.reduceAdd]
  have hK : KOk Try.prog (kOf [(17, newC), (18, eventsC), (27, mixedTC), (20, canC), (16, trueC)]) := kOk_cons new_ok (kOk_cons events_ok (kOk_cons mixedT_ok (kOk_cons canP_ok (kOk_cons awake_ok kOk_nil))))
  repeat' (first
    | (with_reducible refine aw_seq ?_)
    | (with_reducible refine kont_in ?_; simp only [go_sem, reduceIte, Nat.reduceLT, Nat.reduceEqDiff, Nat.reduceAdd, Nat.reduceMul, Nat.reduceSub, Nat.reduceLeDiff, reduceCtorEq, tp_frz, tp_fz])
    | (with_reducible refine dKont_in ?_; simp only [go_sem, reduceIte, Nat.reduceLT, Nat.reduceEqDiff, Nat.reduceAdd, Nat.reduceMul, Nat.reduceSub, Nat.reduceLeDiff, reduceCtorEq, tp_frz, tp_fz])
    | (with_reducible refine aw_drw (by kernel_rfl) kOk_nil kDet_nil ?_; simp only [go_sem, reduceIte, Nat.reduceLT, Nat.reduceEqDiff, Nat.reduceAdd, Nat.reduceMul, Nat.reduceSub, Nat.reduceLeDiff, reduceCtorEq, tp_frz, tp_fz])
    | (with_reducible refine aw_reg hK ?_; simp only [go_sem, reduceIte, Nat.reduceLT, Nat.reduceEqDiff, Nat.reduceAdd, Nat.reduceMul, Nat.reduceSub, Nat.reduceLeDiff, reduceCtorEq, tp_frz, tp_fz])
    | (with_reducible refine aw_if ?_; simp only [go_sem, reduceIte, Nat.reduceLT, Nat.reduceEqDiff, Nat.reduceAdd, Nat.reduceMul, Nat.reduceSub, Nat.reduceLeDiff, reduceCtorEq, tp_frz, tp_fz])
    | (with_reducible refine aw_block ?_)
    | (with_reducible refine aw_ret ?_; (try simp only [thenQ, blockQ]); refine aw_ret' ?_; simp only [go_sem, reduceIte, Nat.reduceLT, Nat.reduceEqDiff, Nat.reduceAdd, Nat.reduceMul, Nat.reduceSub, Nat.reduceLeDiff, reduceCtorEq, tp_frz, tp_fz])
    | (with_reducible refine aw_exit ?_; simp only [thenQ, blockQ, reduceIte, Nat.reduceEqDiff])
    | (with_reducible refine aw_skip ?_; simp only [thenQ, blockQ])
    | (with_reducible refine gate_intro (fun h => ?_) (fun h => ?_) <;> simp only [h, go_sem, reduceIte, Nat.reduceLT, Nat.reduceEqDiff, Nat.reduceAdd, Nat.reduceMul, Nat.reduceSub, Nat.reduceLeDiff, reduceCtorEq, tp_frz, tp_fz] <;> (try simp only [decide_eq_true_eq, decide_eq_false_iff_not, Bool.not_true] at h))
    | (with_reducible refine chk_in (by kernel_rfl) ?_)
    | (with_reducible refine And.intro (And.intro (by omega) (by omega)) ?_)
    | (with_reducible refine And.intro (by omega) ?_)
    | (refine new_call rfl tl h1 (memOf_free rfl) (fun t ht => ?_))
    | (refine events_call rfl _ _ _ rfl (by assumption) (by omega) (memOf_free rfl) (fun l c t1 ht1 hc hl => ?_))
    | (refine mixedT_call rfl _ _ rfl (by assumption) (by omega) (memOf_free rfl) (fun o t2 ht2 hol hop => ?_))
    | (rw [get_in]; rotate_left; omega; simp only [go_sem, reduceIte, Nat.reduceLT, Nat.reduceEqDiff, Nat.reduceAdd, Nat.reduceMul, Nat.reduceSub, Nat.reduceLeDiff, reduceCtorEq, tp_frz, tp_fz])
    | fail)
  refine aw_nil 7 200 3 rfl rfl ?_
  refine aw_nil 8 201 1 rfl rfl ?_
  refine aw_rounds (α := Nat) (fun i => ⟨envOf [(2, bl false), (4, .row 202), (5, .row 203), (6, .row 204), (7, .row 200), (8, .row 201), (9, i64 i)], memOf [(200, .row 3 (stR ((o.take i).map fun x => stAt l x.toNat)) true), (201, .row 1 (intL ((o.take i).map fun x => inAt c x.toNat)) true), (202, .row 3 (stR l) true), (203, .row 1 (intL c) true), (204, .row 1 (intL o) true)], 300⟩)
    (fun i => i ≤ o.length) (fun i => o.length - i) 0 (Nat.zero_le _) (weak_in [(200, 200), (201, 201), (202, _), (203, _), (204, _)] (by repeat' (first | trivial | constructor | rfl)) (by repeat' (first | trivial | constructor | rfl)) (by rfl) (by rfl) (by rfl)) ?_
  intro i hi
  by_cases hlt : i < o.length
  · have hcd : decide ((i : Int) < (o.length : Int)) = true := by simp <;> omega
    have hw := wrS (i := i) (by omega)
    obtain ⟨x, hx⟩ : ∃ x, o[i]? = some x := ⟨_, List.getElem?_eq_getElem hlt⟩
    have hxr := (hop x).1 (List.mem_of_getElem? hx)
    obtain ⟨k, rfl⟩ := Int.eq_ofNat_of_zero_le hxr.1
    repeat' (first
    | (with_reducible refine aw_seq ?_)
    | (with_reducible refine kont_in ?_; simp only [go_sem, reduceIte, Nat.reduceLT, Nat.reduceEqDiff, Nat.reduceAdd, Nat.reduceMul, Nat.reduceSub, Nat.reduceLeDiff, reduceCtorEq, hcd, hw, hx, tp_frz, tp_fz])
    | (with_reducible refine dKont_in ?_; simp only [go_sem, reduceIte, Nat.reduceLT, Nat.reduceEqDiff, Nat.reduceAdd, Nat.reduceMul, Nat.reduceSub, Nat.reduceLeDiff, reduceCtorEq, hcd, hw, hx, tp_frz, tp_fz])
    | (with_reducible refine aw_drw (by kernel_rfl) kOk_nil kDet_nil ?_; simp only [go_sem, reduceIte, Nat.reduceLT, Nat.reduceEqDiff, Nat.reduceAdd, Nat.reduceMul, Nat.reduceSub, Nat.reduceLeDiff, reduceCtorEq, hcd, hw, hx, tp_frz, tp_fz])
    | (with_reducible refine aw_reg hK ?_; simp only [go_sem, reduceIte, Nat.reduceLT, Nat.reduceEqDiff, Nat.reduceAdd, Nat.reduceMul, Nat.reduceSub, Nat.reduceLeDiff, reduceCtorEq, hcd, hw, hx, tp_frz, tp_fz])
    | (with_reducible refine aw_if ?_; simp only [go_sem, reduceIte, Nat.reduceLT, Nat.reduceEqDiff, Nat.reduceAdd, Nat.reduceMul, Nat.reduceSub, Nat.reduceLeDiff, reduceCtorEq, hcd, hw, hx, tp_frz, tp_fz])
    | (with_reducible refine aw_block ?_)
    | (with_reducible refine aw_ret ?_; (try simp only [thenQ, blockQ]); refine aw_ret' ?_; simp only [go_sem, reduceIte, Nat.reduceLT, Nat.reduceEqDiff, Nat.reduceAdd, Nat.reduceMul, Nat.reduceSub, Nat.reduceLeDiff, reduceCtorEq, hcd, hw, hx, tp_frz, tp_fz])
    | (with_reducible refine aw_exit ?_; simp only [thenQ, blockQ, reduceIte, Nat.reduceEqDiff])
    | (with_reducible refine aw_skip ?_; simp only [thenQ, blockQ])
    | (with_reducible refine gate_intro (fun h => ?_) (fun h => ?_) <;> simp only [h, go_sem, reduceIte, Nat.reduceLT, Nat.reduceEqDiff, Nat.reduceAdd, Nat.reduceMul, Nat.reduceSub, Nat.reduceLeDiff, reduceCtorEq, hcd, hw, hx, tp_frz, tp_fz] <;> (try simp only [decide_eq_true_eq, decide_eq_false_iff_not, Bool.not_true] at h))
    | (with_reducible refine chk_in (by kernel_rfl) ?_)
    | (with_reducible refine And.intro (And.intro (by omega) (by omega)) ?_)
    | (with_reducible refine And.intro (by omega) ?_)
    | (rw [get_in]; rotate_left; omega; simp only [go_sem, reduceIte, Nat.reduceLT, Nat.reduceEqDiff, Nat.reduceAdd, Nat.reduceMul, Nat.reduceSub, Nat.reduceLeDiff, reduceCtorEq, hcd, hw, hx, tp_frz, tp_fz])
    | fail)
    have e1 : (o.take (i + 1)).map (fun x => stAt l x.toNat) = (o.take i).map (fun x => stAt l x.toNat) ++ [stAt l k] := by rw [List.take_add_one, hx]; simp
    have e2 : (o.take (i + 1)).map (fun x => inAt c x.toNat) = (o.take i).map (fun x => inAt c x.toNat) ++ [inAt c k] := by rw [List.take_add_one, hx]; simp
    refine ⟨i + 1, ?_, by omega, by omega⟩
    simp only [e1, e2]
    exact weak_in [(200, _), (201, _), (202, 202), (203, 203), (204, 204)] (by repeat' (first | trivial | constructor | rfl)) (by repeat' (first | trivial | constructor | rfl)) (by rfl) (by rfl) (by rfl)
  have hcd : decide ((i : Int) < (o.length : Int)) = false := by simp <;> omega
  have e : i = o.length := by omega
  subst e
  simp only [List.take_length]
  generalize hm : o.map (fun x => stAt l x.toNat) = m
  generalize hd : o.map (fun x => inAt c x.toNat) = d
  have hml : m.length = o.length := by rw [← hm]; simp
  have hdl : d.length = o.length := by rw [← hd]; simp
  have c1 := canR_small (l := l) (c := c) (by omega) hc
  have c2 := canR_small (l := m) (c := d) (by omega) (by omega)
  have hev : ∀ p, IsEv l c p ↔ IsEv m d p := by
    intro p
    have hme : ∀ j x, o[j]? = some x → ev m d j = ev l c x.toNat := by
      intro j x hj
      simp only [ev, ← hm, ← hd, stAt, inAt, List.getElem?_map, hj]; rfl
    constructor
    · rintro ⟨i, hi, rfl⟩
      obtain ⟨j, hj⟩ := List.getElem?_of_mem ((hop i).2 ⟨by omega, by omega⟩)
      have hjl : j < o.length := (List.getElem?_eq_some_iff.1 hj).1
      exact ⟨j, by omega, by rw [hme j _ hj]; simp⟩
    · rintro ⟨j, hj, rfl⟩
      have hx := List.getElem?_eq_getElem (l := o) (i := j) (by omega)
      have := (hop _).1 (List.mem_of_getElem? hx)
      exact ⟨(o[j]'(by omega)).toNat, by omega, (hme j _ hx).symm⟩
  have hsame := can_same hev
  have hlen : (canF l c).length = (canF m d).length := by have := congrArg List.length hsame; simpa using this
  repeat' (first
    | (with_reducible refine aw_seq ?_)
    | (with_reducible refine kont_in ?_; simp only [go_sem, reduceIte, Nat.reduceLT, Nat.reduceEqDiff, Nat.reduceAdd, Nat.reduceMul, Nat.reduceSub, Nat.reduceLeDiff, reduceCtorEq, hcd, c1, c2, hlen, bne_self_eq_false, tp_frz, tp_fz])
    | (with_reducible refine dKont_in ?_; simp only [go_sem, reduceIte, Nat.reduceLT, Nat.reduceEqDiff, Nat.reduceAdd, Nat.reduceMul, Nat.reduceSub, Nat.reduceLeDiff, reduceCtorEq, hcd, c1, c2, hlen, bne_self_eq_false, tp_frz, tp_fz])
    | (with_reducible refine aw_drw (by kernel_rfl) kOk_nil kDet_nil ?_; simp only [go_sem, reduceIte, Nat.reduceLT, Nat.reduceEqDiff, Nat.reduceAdd, Nat.reduceMul, Nat.reduceSub, Nat.reduceLeDiff, reduceCtorEq, hcd, c1, c2, hlen, bne_self_eq_false, tp_frz, tp_fz])
    | (with_reducible refine aw_reg hK ?_; simp only [go_sem, reduceIte, Nat.reduceLT, Nat.reduceEqDiff, Nat.reduceAdd, Nat.reduceMul, Nat.reduceSub, Nat.reduceLeDiff, reduceCtorEq, hcd, c1, c2, hlen, bne_self_eq_false, tp_frz, tp_fz])
    | (with_reducible refine aw_if ?_; simp only [go_sem, reduceIte, Nat.reduceLT, Nat.reduceEqDiff, Nat.reduceAdd, Nat.reduceMul, Nat.reduceSub, Nat.reduceLeDiff, reduceCtorEq, hcd, c1, c2, hlen, bne_self_eq_false, tp_frz, tp_fz])
    | (with_reducible refine aw_block ?_)
    | (with_reducible refine aw_ret ?_; (try simp only [thenQ, blockQ]); refine aw_ret' ?_; simp only [go_sem, reduceIte, Nat.reduceLT, Nat.reduceEqDiff, Nat.reduceAdd, Nat.reduceMul, Nat.reduceSub, Nat.reduceLeDiff, reduceCtorEq, hcd, c1, c2, hlen, bne_self_eq_false, tp_frz, tp_fz])
    | (with_reducible refine aw_exit ?_; simp only [thenQ, blockQ, reduceIte, Nat.reduceEqDiff])
    | (with_reducible refine aw_skip ?_; simp only [thenQ, blockQ])
    | (with_reducible refine gate_intro (fun h => ?_) (fun h => ?_) <;> simp only [h, go_sem, reduceIte, Nat.reduceLT, Nat.reduceEqDiff, Nat.reduceAdd, Nat.reduceMul, Nat.reduceSub, Nat.reduceLeDiff, reduceCtorEq, hcd, c1, c2, hlen, bne_self_eq_false, tp_frz, tp_fz] <;> (try simp only [decide_eq_true_eq, decide_eq_false_iff_not, Bool.not_true] at h))
    | (with_reducible refine chk_in (by kernel_rfl) ?_)
    | (with_reducible refine And.intro (And.intro (by omega) (by omega)) ?_)
    | (with_reducible refine And.intro (by omega) ?_)
    | (refine canP_call rfl l c rfl rfl (by omega) (memOf_free rfl) ?_)
    | (refine canP_call rfl m d rfl rfl (by omega) (memOf_free rfl) ?_)
    | (rw [get_in]; rotate_left; omega; simp only [go_sem, reduceIte, Nat.reduceLT, Nat.reduceEqDiff, Nat.reduceAdd, Nat.reduceMul, Nat.reduceSub, Nat.reduceLeDiff, reduceCtorEq, hcd, c1, c2, hlen, bne_self_eq_false, tp_frz, tp_fz])
    | fail)
  refine aw_rounds (α := Nat) (fun i => ⟨envOf [(2, bl false), (4, .row 202), (5, .row 203), (7, .row 200), (8, .row 201), (10, .row 205), (12, .row 206), (14, i64 i)], memOf [(200, .row 3 (stR m) true), (201, .row 1 (intL d) true), (202, .row 3 (stR l) true), (203, .row 1 (intL c) true), (205, .row 1 (intL (natI (canF l c))) true), (206, .row 1 (intL (natI (canF m d))) true)], 500⟩)
    (fun i => i ≤ (canF m d).length) (fun i => (canF m d).length - i) 0 (Nat.zero_le _) (weak_in [(200, 200), (201, 201), (202, 202), (203, 203), (205, _), (206, _)] (by repeat' (first | trivial | constructor | rfl)) (by repeat' (first | trivial | constructor | rfl)) (by rfl) (by rfl) (by rfl)) ?_
  intro i hi
  have cl := canF_len m d
  by_cases hlt : i < (canF m d).length
  · have hcd : decide ((i : Int) < ((canF m d).length : Int)) = true := by simp <;> omega
    have hw := wrS (i := i) (by omega)
    have hx := List.getElem?_eq_getElem (l := canF l c) (i := i) (by omega)
    have hy := List.getElem?_eq_getElem (l := canF m d) (i := i) hlt
    generalize (canF l c)[i]'(by omega) = x at hx
    generalize (canF m d)[i] = y at hy
    have he : ev l c x = ev m d y := by
      have h2 := congrArg (·[i]?) hsame
      simpa [hx, hy] using h2
    have hxl := (((canF_is l c).2 x).1 (List.mem_of_getElem? hx)).1
    have hyl := (((canF_is m d).2 y).1 (List.mem_of_getElem? hy)).1
    obtain ⟨hes, hec⟩ := Prod.mk.inj he
    have p1 : l[x]? = some (stAt l x) := by simp [stAt, hxl]
    have p2 : m[y]? = some (stAt l x) := by rw [hes]; simp [stAt, hyl]
    have p3 : c[x]? = some (inAt c x) := by simp [inAt, show x < c.length by omega]
    have p4 : d[y]? = some (inAt c x) := by rw [hec]; simp [inAt, show y < d.length by omega]
    generalize stAt l x = s at p1 p2
    generalize inAt c x = v at p3 p4
    obtain ⟨s1, s2, s3⟩ := s
    have q1 : decide ((x : Int) < 0) = false := by simp
    have q2 : decide ((y : Int) < 0) = false := by simp
    have q3 : decide ((x : Int) ≥ (l.length : Int)) = false := by simp; omega
    have q4 : decide ((y : Int) ≥ (m.length : Int)) = false := by simp; omega
    repeat' (first
    | (with_reducible refine aw_seq ?_)
    | (with_reducible refine kont_in ?_; simp only [go_sem, reduceIte, Nat.reduceLT, Nat.reduceEqDiff, Nat.reduceAdd, Nat.reduceMul, Nat.reduceSub, Nat.reduceLeDiff, reduceCtorEq, hlen, hcd, hw, hx, hy, p1, p2, p3, p4, q1, q2, q3, q4, stD, bne_self_eq_false, tp_frz, tp_fz])
    | (with_reducible refine dKont_in ?_; simp only [go_sem, reduceIte, Nat.reduceLT, Nat.reduceEqDiff, Nat.reduceAdd, Nat.reduceMul, Nat.reduceSub, Nat.reduceLeDiff, reduceCtorEq, hlen, hcd, hw, hx, hy, p1, p2, p3, p4, q1, q2, q3, q4, stD, bne_self_eq_false, tp_frz, tp_fz])
    | (with_reducible refine aw_drw (by kernel_rfl) kOk_nil kDet_nil ?_; simp only [go_sem, reduceIte, Nat.reduceLT, Nat.reduceEqDiff, Nat.reduceAdd, Nat.reduceMul, Nat.reduceSub, Nat.reduceLeDiff, reduceCtorEq, hlen, hcd, hw, hx, hy, p1, p2, p3, p4, q1, q2, q3, q4, stD, bne_self_eq_false, tp_frz, tp_fz])
    | (with_reducible refine aw_reg hK ?_; simp only [go_sem, reduceIte, Nat.reduceLT, Nat.reduceEqDiff, Nat.reduceAdd, Nat.reduceMul, Nat.reduceSub, Nat.reduceLeDiff, reduceCtorEq, hlen, hcd, hw, hx, hy, p1, p2, p3, p4, q1, q2, q3, q4, stD, bne_self_eq_false, tp_frz, tp_fz])
    | (with_reducible refine aw_if ?_; simp only [go_sem, reduceIte, Nat.reduceLT, Nat.reduceEqDiff, Nat.reduceAdd, Nat.reduceMul, Nat.reduceSub, Nat.reduceLeDiff, reduceCtorEq, hlen, hcd, hw, hx, hy, p1, p2, p3, p4, q1, q2, q3, q4, stD, bne_self_eq_false, tp_frz, tp_fz])
    | (with_reducible refine aw_block ?_)
    | (with_reducible refine aw_ret ?_; (try simp only [thenQ, blockQ]); refine aw_ret' ?_; simp only [go_sem, reduceIte, Nat.reduceLT, Nat.reduceEqDiff, Nat.reduceAdd, Nat.reduceMul, Nat.reduceSub, Nat.reduceLeDiff, reduceCtorEq, hlen, hcd, hw, hx, hy, p1, p2, p3, p4, q1, q2, q3, q4, stD, bne_self_eq_false, tp_frz, tp_fz])
    | (with_reducible refine aw_exit ?_; simp only [thenQ, blockQ, reduceIte, Nat.reduceEqDiff])
    | (with_reducible refine aw_skip ?_; simp only [thenQ, blockQ])
    | (with_reducible refine gate_intro (fun h => ?_) (fun h => ?_) <;> simp only [h, go_sem, reduceIte, Nat.reduceLT, Nat.reduceEqDiff, Nat.reduceAdd, Nat.reduceMul, Nat.reduceSub, Nat.reduceLeDiff, reduceCtorEq, hlen, hcd, hw, hx, hy, p1, p2, p3, p4, q1, q2, q3, q4, stD, bne_self_eq_false, tp_frz, tp_fz] <;> (try simp only [decide_eq_true_eq, decide_eq_false_iff_not, Bool.not_true] at h))
    | (with_reducible refine chk_in (by kernel_rfl) ?_)
    | (with_reducible refine And.intro (And.intro (by omega) (by omega)) ?_)
    | (with_reducible refine And.intro (by omega) ?_)
    | (rw [get_in]; rotate_left; omega; simp only [go_sem, reduceIte, Nat.reduceLT, Nat.reduceEqDiff, Nat.reduceAdd, Nat.reduceMul, Nat.reduceSub, Nat.reduceLeDiff, reduceCtorEq, hlen, hcd, hw, hx, hy, p1, p2, p3, p4, q1, q2, q3, q4, stD, bne_self_eq_false, tp_frz, tp_fz])
    | fail)
    exact ⟨i + 1, weak_in [(200, 200), (201, 201), (202, 202), (203, 203), (205, 205), (206, 206)] (by repeat' (first | trivial | constructor | rfl)) (by repeat' (first | trivial | constructor | rfl)) (by rfl) (by rfl) (by rfl), by omega, by omega⟩
  · have hcd : decide ((i : Int) < ((canF m d).length : Int)) = false := by simp <;> omega
    repeat' (first
    | (with_reducible refine aw_seq ?_)
    | (with_reducible refine kont_in ?_; simp only [go_sem, reduceIte, Nat.reduceLT, Nat.reduceEqDiff, Nat.reduceAdd, Nat.reduceMul, Nat.reduceSub, Nat.reduceLeDiff, reduceCtorEq, hlen, hcd])
    | (with_reducible refine dKont_in ?_; simp only [go_sem, reduceIte, Nat.reduceLT, Nat.reduceEqDiff, Nat.reduceAdd, Nat.reduceMul, Nat.reduceSub, Nat.reduceLeDiff, reduceCtorEq, hlen, hcd])
    | (with_reducible refine aw_drw (by kernel_rfl) kOk_nil kDet_nil ?_; simp only [go_sem, reduceIte, Nat.reduceLT, Nat.reduceEqDiff, Nat.reduceAdd, Nat.reduceMul, Nat.reduceSub, Nat.reduceLeDiff, reduceCtorEq, hlen, hcd])
    | (with_reducible refine aw_reg hK ?_; simp only [go_sem, reduceIte, Nat.reduceLT, Nat.reduceEqDiff, Nat.reduceAdd, Nat.reduceMul, Nat.reduceSub, Nat.reduceLeDiff, reduceCtorEq, hlen, hcd])
    | (with_reducible refine aw_if ?_; simp only [go_sem, reduceIte, Nat.reduceLT, Nat.reduceEqDiff, Nat.reduceAdd, Nat.reduceMul, Nat.reduceSub, Nat.reduceLeDiff, reduceCtorEq, hlen, hcd])
    | (with_reducible refine aw_block ?_)
    | (with_reducible refine aw_ret ?_; (try simp only [thenQ, blockQ]); refine aw_ret' ?_; simp only [go_sem, reduceIte, Nat.reduceLT, Nat.reduceEqDiff, Nat.reduceAdd, Nat.reduceMul, Nat.reduceSub, Nat.reduceLeDiff, reduceCtorEq, hlen, hcd])
    | (with_reducible refine aw_exit ?_; simp only [thenQ, blockQ, reduceIte, Nat.reduceEqDiff])
    | (with_reducible refine aw_skip ?_; simp only [thenQ, blockQ])
    | (with_reducible refine gate_intro (fun h => ?_) (fun h => ?_) <;> simp only [h, go_sem, reduceIte, Nat.reduceLT, Nat.reduceEqDiff, Nat.reduceAdd, Nat.reduceMul, Nat.reduceSub, Nat.reduceLeDiff, reduceCtorEq, hlen, hcd] <;> (try simp only [decide_eq_true_eq, decide_eq_false_iff_not, Bool.not_true] at h))
    | (with_reducible refine chk_in (by kernel_rfl) ?_)
    | (with_reducible refine And.intro (And.intro (by omega) (by omega)) ?_)
    | (with_reducible refine And.intro (by omega) ?_)
    | (refine true_call rfl rfl ?_)
    | (rw [get_in]; rotate_left; omega; simp only [go_sem, reduceIte, Nat.reduceLT, Nat.reduceEqDiff, Nat.reduceAdd, Nat.reduceMul, Nat.reduceSub, Nat.reduceLeDiff, reduceCtorEq, hlen, hcd])
    | fail)

theorem twice_ok : CallOk Try.prog 8 oneLawC := by
  refine ok_of_body' 149 1 Try.func8 rfl (by decide) Try.ntmps8 (by intro a h; exact ⟨rfl, rfl⟩) (by decide) (by rintro _ a r _ rfl; rfl) ?_
  rintro tl h1
  simp only [lawC] at h1 ⊢
  simp only [initE, initMm, List.length_cons, List.length_nil, Nat.reduceAdd]
  have hK : KOk Try.prog (kOf [(14, compareC)]) := kOk_cons compare_ok kOk_nil
  have hD : KDet (kOf [(14, compareC)]) := kDet_cons (fun _ _ => ⟨_, rfl, by simp, fun _ h => h⟩) kDet_nil
  have hK' : KOk Try.prog (kOf [(17, newC), (18, eventsC), (20, canC), (12, validC), (22, sameC), (16, trueC), (14, compareC)]) := kOk_cons new_ok (kOk_cons events_ok (kOk_cons canP_ok (kOk_cons valid_ok (kOk_cons same_ok (kOk_cons awake_ok hK)))))
  have s1 : compareC.srt = none := rfl
  have d1 : compareC.clean = true := rfl
  repeat' (first
    | (with_reducible refine aw_seq ?_)
    | (with_reducible refine kont_in ?_; simp only [go_sem, reduceIte, Nat.reduceLT, Nat.reduceEqDiff, Nat.reduceAdd, Nat.reduceMul, Nat.reduceSub, Nat.reduceLeDiff, reduceCtorEq, s1, d1, tp_frz, tp_fz])
    | (with_reducible refine dKont_in ?_; simp only [go_sem, reduceIte, Nat.reduceLT, Nat.reduceEqDiff, Nat.reduceAdd, Nat.reduceMul, Nat.reduceSub, Nat.reduceLeDiff, reduceCtorEq, s1, d1, tp_frz, tp_fz])
    | (with_reducible refine aw_drw (by kernel_rfl) hK hD ?_; simp only [go_sem, reduceIte, Nat.reduceLT, Nat.reduceEqDiff, Nat.reduceAdd, Nat.reduceMul, Nat.reduceSub, Nat.reduceLeDiff, reduceCtorEq, s1, d1, tp_frz, tp_fz])
    | (with_reducible refine aw_reg hK' ?_; simp only [go_sem, reduceIte, Nat.reduceLT, Nat.reduceEqDiff, Nat.reduceAdd, Nat.reduceMul, Nat.reduceSub, Nat.reduceLeDiff, reduceCtorEq, s1, d1, tp_frz, tp_fz])
    | (with_reducible refine aw_if ?_; simp only [go_sem, reduceIte, Nat.reduceLT, Nat.reduceEqDiff, Nat.reduceAdd, Nat.reduceMul, Nat.reduceSub, Nat.reduceLeDiff, reduceCtorEq, s1, d1, tp_frz, tp_fz])
    | (with_reducible refine aw_block ?_)
    | (with_reducible refine aw_ret ?_; (try simp only [thenQ, blockQ]); refine aw_ret' ?_; simp only [go_sem, reduceIte, Nat.reduceLT, Nat.reduceEqDiff, Nat.reduceAdd, Nat.reduceMul, Nat.reduceSub, Nat.reduceLeDiff, reduceCtorEq, s1, d1, tp_frz, tp_fz])
    | (with_reducible refine aw_exit ?_; simp only [thenQ, blockQ, reduceIte, Nat.reduceEqDiff])
    | (with_reducible refine aw_skip ?_; simp only [thenQ, blockQ])
    | (with_reducible refine gate_intro (fun h => ?_) (fun h => ?_) <;> simp only [h, go_sem, reduceIte, Nat.reduceLT, Nat.reduceEqDiff, Nat.reduceAdd, Nat.reduceMul, Nat.reduceSub, Nat.reduceLeDiff, reduceCtorEq, s1, d1, tp_frz, tp_fz] <;> (try simp only [decide_eq_true_eq, decide_eq_false_iff_not, Bool.not_true] at h))
    | (with_reducible refine chk_in (by kernel_rfl) ?_)
    | (with_reducible refine And.intro (And.intro (by omega) (by omega)) ?_)
    | (with_reducible refine And.intro (by omega) ?_)
    | (refine new_call rfl tl h1 (memOf_free rfl) (fun t ht => ?_))
    | (refine events_call rfl _ _ _ rfl (by assumption) (by omega) (memOf_free rfl) (fun l c t1 ht1 hc hl => ?_))
    | (refine canP_call rfl l c rfl rfl (by omega) (memOf_free rfl) ?_)
    | (rw [get_in]; rotate_left; omega; simp only [go_sem, reduceIte, Nat.reduceLT, Nat.reduceEqDiff, Nat.reduceAdd, Nat.reduceMul, Nat.reduceSub, Nat.reduceLeDiff, reduceCtorEq, s1, d1, tp_frz, tp_fz])
    | fail)
  · rw [canR_small (by omega) hc] at h; cases h
  have cl := canF_len l c
  have c1 := canR_small (l := l) (c := c) (by omega) hc
  simp only [c1]
  refine aw_nil 7 200 3 rfl rfl ?_
  refine aw_nil 8 201 1 rfl rfl ?_
  refine aw_nil 9 207 1 rfl rfl ?_
  refine aw_rounds (α := Nat) (fun i => ⟨envOf [(2, bl false), (3, .row 202), (4, .row 203), (5, .row 205), (7, .row 200), (8, .row 201), (9, .row 207), (10, i64 i)], memOf [(200, .row 3 (stR (((canF l c).take i).map (stAt l))) true), (201, .row 1 (intL (((canF l c).take i).map (inAt c))) true), (202, .row 3 (stR l) true), (203, .row 1 (intL c) true), (205, .row 1 (intL (natI (canF l c))) true), (207, .row 1 (intL (natI (List.range i))) true)], 500⟩)
    (fun i => i ≤ (canF l c).length) (fun i => (canF l c).length - i) 0 (Nat.zero_le _) (weak_in [(200, 200), (201, 201), (202, _), (203, _), (205, _), (207, 207)] (by repeat' (first | trivial | constructor | rfl)) (by repeat' (first | trivial | constructor | rfl)) (by rfl) (by rfl) (by rfl)) ?_
  intro i hi
  by_cases hlt : i < (canF l c).length
  case neg =>
    have hcd : decide ((i : Int) < ((canF l c).length : Int)) = false := by simp <;> omega
    have e : i = (canF l c).length := by omega
    subst e
    simp only [List.take_length]
    have htw := can_twice l c
    have hsm := canR_small (l := (canF l c).map (stAt l)) (c := (canF l c).map (inAt c)) (by simp; omega) (by simp)
    rw [htw] at hsm
    repeat' (first
    | (with_reducible refine aw_seq ?_)
    | (with_reducible refine kont_in ?_; simp only [go_sem, reduceIte, Nat.reduceLT, Nat.reduceEqDiff, Nat.reduceAdd, Nat.reduceMul, Nat.reduceSub, Nat.reduceLeDiff, reduceCtorEq, hcd, hsm, tp_frz, tp_fz])
    | (with_reducible refine dKont_in ?_; simp only [go_sem, reduceIte, Nat.reduceLT, Nat.reduceEqDiff, Nat.reduceAdd, Nat.reduceMul, Nat.reduceSub, Nat.reduceLeDiff, reduceCtorEq, hcd, hsm, tp_frz, tp_fz])
    | (with_reducible refine aw_drw (by kernel_rfl) hK hD ?_; simp only [go_sem, reduceIte, Nat.reduceLT, Nat.reduceEqDiff, Nat.reduceAdd, Nat.reduceMul, Nat.reduceSub, Nat.reduceLeDiff, reduceCtorEq, hcd, hsm, tp_frz, tp_fz])
    | (with_reducible refine aw_reg hK' ?_; simp only [go_sem, reduceIte, Nat.reduceLT, Nat.reduceEqDiff, Nat.reduceAdd, Nat.reduceMul, Nat.reduceSub, Nat.reduceLeDiff, reduceCtorEq, hcd, hsm, tp_frz, tp_fz])
    | (with_reducible refine aw_if ?_; simp only [go_sem, reduceIte, Nat.reduceLT, Nat.reduceEqDiff, Nat.reduceAdd, Nat.reduceMul, Nat.reduceSub, Nat.reduceLeDiff, reduceCtorEq, hcd, hsm, tp_frz, tp_fz])
    | (with_reducible refine aw_block ?_)
    | (with_reducible refine aw_ret ?_; (try simp only [thenQ, blockQ]); refine aw_ret' ?_; simp only [go_sem, reduceIte, Nat.reduceLT, Nat.reduceEqDiff, Nat.reduceAdd, Nat.reduceMul, Nat.reduceSub, Nat.reduceLeDiff, reduceCtorEq, hcd, hsm, tp_frz, tp_fz])
    | (with_reducible refine aw_exit ?_; simp only [thenQ, blockQ, reduceIte, Nat.reduceEqDiff])
    | (with_reducible refine aw_skip ?_; simp only [thenQ, blockQ])
    | (with_reducible refine gate_intro (fun h => ?_) (fun h => ?_) <;> simp only [h, go_sem, reduceIte, Nat.reduceLT, Nat.reduceEqDiff, Nat.reduceAdd, Nat.reduceMul, Nat.reduceSub, Nat.reduceLeDiff, reduceCtorEq, hcd, hsm, tp_frz, tp_fz] <;> (try simp only [decide_eq_true_eq, decide_eq_false_iff_not, Bool.not_true] at h))
    | (with_reducible refine chk_in (by kernel_rfl) ?_)
    | (with_reducible refine And.intro (And.intro (by omega) (by omega)) ?_)
    | (with_reducible refine And.intro (by omega) ?_)
    | (refine canP_call rfl _ _ rfl rfl (by simp; omega) (memOf_free rfl) ?_)
    | (refine samei_call rfl _ _ rfl rfl (by simp [natI]; omega) rfl ?_)
    | (refine true_call rfl rfl ?_)
    | (rw [get_in]; rotate_left; omega; simp only [go_sem, reduceIte, Nat.reduceLT, Nat.reduceEqDiff, Nat.reduceAdd, Nat.reduceMul, Nat.reduceSub, Nat.reduceLeDiff, reduceCtorEq, hcd, hsm, tp_frz, tp_fz])
    | fail)
    all_goals first | rfl | (exfalso; simp at h; done)
  have hcd : decide ((i : Int) < ((canF l c).length : Int)) = true := by simp <;> omega
  have hw := wrS (i := i) (by omega)
  have hx := List.getElem?_eq_getElem (l := canF l c) (i := i) (by omega)
  generalize hxe : (canF l c)[i]'(by omega) = x at hx
  have hxm := ((canF_is l c).2 x).1 (List.mem_of_getElem? hx)
  have hxl := hxm.1
  have hce := counts_ce hxl hxm.2
  have hv : valS (stAt l x) = true := hce.2.1
  have p1 : l[x]? = some (stAt l x) := by simp [stAt, hxl]
  have p3 : c[x]? = some (inAt c x) := by simp [inAt, show x < c.length by omega]
  have q1 : decide ((x : Int) < 0) = false := by simp
  have q3 : decide ((x : Int) ≥ (l.length : Int)) = false := by simp; omega
  repeat' (first
    | (with_reducible refine aw_seq ?_)
    | (with_reducible refine kont_in ?_; simp only [go_sem, reduceIte, Nat.reduceLT, Nat.reduceEqDiff, Nat.reduceAdd, Nat.reduceMul, Nat.reduceSub, Nat.reduceLeDiff, reduceCtorEq, hcd, hw, hx, p1, p3, q1, q3, s1, d1, tp_frz, tp_fz])
    | (with_reducible refine dKont_in ?_; simp only [go_sem, reduceIte, Nat.reduceLT, Nat.reduceEqDiff, Nat.reduceAdd, Nat.reduceMul, Nat.reduceSub, Nat.reduceLeDiff, reduceCtorEq, hcd, hw, hx, p1, p3, q1, q3, s1, d1, tp_frz, tp_fz])
    | (with_reducible refine aw_drw (by kernel_rfl) hK hD ?_; simp only [go_sem, reduceIte, Nat.reduceLT, Nat.reduceEqDiff, Nat.reduceAdd, Nat.reduceMul, Nat.reduceSub, Nat.reduceLeDiff, reduceCtorEq, hcd, hw, hx, p1, p3, q1, q3, s1, d1, tp_frz, tp_fz])
    | (with_reducible refine aw_reg hK' ?_; simp only [go_sem, reduceIte, Nat.reduceLT, Nat.reduceEqDiff, Nat.reduceAdd, Nat.reduceMul, Nat.reduceSub, Nat.reduceLeDiff, reduceCtorEq, hcd, hw, hx, p1, p3, q1, q3, s1, d1, tp_frz, tp_fz])
    | (with_reducible refine aw_if ?_; simp only [go_sem, reduceIte, Nat.reduceLT, Nat.reduceEqDiff, Nat.reduceAdd, Nat.reduceMul, Nat.reduceSub, Nat.reduceLeDiff, reduceCtorEq, hcd, hw, hx, p1, p3, q1, q3, s1, d1, tp_frz, tp_fz])
    | (with_reducible refine aw_block ?_)
    | (with_reducible refine aw_ret ?_; (try simp only [thenQ, blockQ]); refine aw_ret' ?_; simp only [go_sem, reduceIte, Nat.reduceLT, Nat.reduceEqDiff, Nat.reduceAdd, Nat.reduceMul, Nat.reduceSub, Nat.reduceLeDiff, reduceCtorEq, hcd, hw, hx, p1, p3, q1, q3, s1, d1, tp_frz, tp_fz])
    | (with_reducible refine aw_exit ?_; simp only [thenQ, blockQ, reduceIte, Nat.reduceEqDiff])
    | (with_reducible refine aw_skip ?_; simp only [thenQ, blockQ])
    | (with_reducible refine gate_intro (fun h => ?_) (fun h => ?_) <;> simp only [h, go_sem, reduceIte, Nat.reduceLT, Nat.reduceEqDiff, Nat.reduceAdd, Nat.reduceMul, Nat.reduceSub, Nat.reduceLeDiff, reduceCtorEq, hcd, hw, hx, p1, p3, q1, q3, s1, d1, tp_frz, tp_fz] <;> (try simp only [decide_eq_true_eq, decide_eq_false_iff_not, Bool.not_true] at h))
    | (with_reducible refine chk_in (by kernel_rfl) ?_)
    | (with_reducible refine And.intro (And.intro (by omega) (by omega)) ?_)
    | (with_reducible refine And.intro (by omega) ?_)
    | (refine validP_call rfl (stAt l x) rfl rfl ?_)
    | (rw [get_in]; rotate_left; omega; simp only [go_sem, reduceIte, Nat.reduceLT, Nat.reduceEqDiff, Nat.reduceAdd, Nat.reduceMul, Nat.reduceSub, Nat.reduceLeDiff, reduceCtorEq, hcd, hw, hx, p1, p3, q1, q3, s1, d1, tp_frz, tp_fz])
    | fail)
  · exfalso; rw [hv] at h; cases h
  refine aw_rounds (α := Nat) (fun k => ⟨envOf [(2, bl false), (3, .row 202), (4, .row 203), (5, .row 205), (7, .row 200), (8, .row 201), (9, .row 207), (10, i64 i), (11, i64 k)], memOf [(200, .row 3 (stR (((canF l c).take i).map (stAt l))) true), (201, .row 1 (intL (((canF l c).take i).map (inAt c))) true), (202, .row 3 (stR l) true), (203, .row 1 (intL c) true), (205, .row 1 (intL (natI (canF l c))) true), (207, .row 1 (intL (natI (List.range i))) true)], 600⟩)
    (fun k => k ≤ i) (fun k => i - k) 0 (Nat.zero_le _) (weak_in [(200, 200), (201, 201), (202, 202), (203, 203), (205, 205), (207, 207)] (by repeat' (first | trivial | constructor | rfl)) (by repeat' (first | trivial | constructor | rfl)) (by rfl) (by rfl) (by rfl)) ?_
  intro k hk
  by_cases hki : k < i
  case neg =>
    have hkd : decide ((k : Int) < (i : Int)) = false := by simp <;> omega
    repeat' (first
    | (with_reducible refine aw_seq ?_)
    | (with_reducible refine kont_in ?_; simp only [go_sem, reduceIte, Nat.reduceLT, Nat.reduceEqDiff, Nat.reduceAdd, Nat.reduceMul, Nat.reduceSub, Nat.reduceLeDiff, reduceCtorEq, hkd, hw, hx, p1, p3, s1, d1, List.length_range, tp_frz, tp_fz])
    | (with_reducible refine dKont_in ?_; simp only [go_sem, reduceIte, Nat.reduceLT, Nat.reduceEqDiff, Nat.reduceAdd, Nat.reduceMul, Nat.reduceSub, Nat.reduceLeDiff, reduceCtorEq, hkd, hw, hx, p1, p3, s1, d1, List.length_range, tp_frz, tp_fz])
    | (with_reducible refine aw_drw (by kernel_rfl) hK hD ?_; simp only [go_sem, reduceIte, Nat.reduceLT, Nat.reduceEqDiff, Nat.reduceAdd, Nat.reduceMul, Nat.reduceSub, Nat.reduceLeDiff, reduceCtorEq, hkd, hw, hx, p1, p3, s1, d1, List.length_range, tp_frz, tp_fz])
    | (with_reducible refine aw_reg hK' ?_; simp only [go_sem, reduceIte, Nat.reduceLT, Nat.reduceEqDiff, Nat.reduceAdd, Nat.reduceMul, Nat.reduceSub, Nat.reduceLeDiff, reduceCtorEq, hkd, hw, hx, p1, p3, s1, d1, List.length_range, tp_frz, tp_fz])
    | (with_reducible refine aw_if ?_; simp only [go_sem, reduceIte, Nat.reduceLT, Nat.reduceEqDiff, Nat.reduceAdd, Nat.reduceMul, Nat.reduceSub, Nat.reduceLeDiff, reduceCtorEq, hkd, hw, hx, p1, p3, s1, d1, List.length_range, tp_frz, tp_fz])
    | (with_reducible refine aw_block ?_)
    | (with_reducible refine aw_ret ?_; (try simp only [thenQ, blockQ]); refine aw_ret' ?_; simp only [go_sem, reduceIte, Nat.reduceLT, Nat.reduceEqDiff, Nat.reduceAdd, Nat.reduceMul, Nat.reduceSub, Nat.reduceLeDiff, reduceCtorEq, hkd, hw, hx, p1, p3, s1, d1, List.length_range, tp_frz, tp_fz])
    | (with_reducible refine aw_exit ?_; simp only [thenQ, blockQ, reduceIte, Nat.reduceEqDiff])
    | (with_reducible refine aw_skip ?_; simp only [thenQ, blockQ])
    | (with_reducible refine gate_intro (fun h => ?_) (fun h => ?_) <;> simp only [h, go_sem, reduceIte, Nat.reduceLT, Nat.reduceEqDiff, Nat.reduceAdd, Nat.reduceMul, Nat.reduceSub, Nat.reduceLeDiff, reduceCtorEq, hkd, hw, hx, p1, p3, s1, d1, List.length_range, tp_frz, tp_fz] <;> (try simp only [decide_eq_true_eq, decide_eq_false_iff_not, Bool.not_true] at h))
    | (with_reducible refine chk_in (by kernel_rfl) ?_)
    | (with_reducible refine And.intro (And.intro (by omega) (by omega)) ?_)
    | (with_reducible refine And.intro (by omega) ?_)
    | (rw [get_in]; rotate_left; omega; simp only [go_sem, reduceIte, Nat.reduceLT, Nat.reduceEqDiff, Nat.reduceAdd, Nat.reduceMul, Nat.reduceSub, Nat.reduceLeDiff, reduceCtorEq, hkd, hw, hx, p1, p3, s1, d1, List.length_range, tp_frz, tp_fz])
    | fail)
    have e1 : ((canF l c).take (i + 1)).map (stAt l) = ((canF l c).take i).map (stAt l) ++ [stAt l x] := by rw [List.take_add_one, hx]; simp
    have e2 : ((canF l c).take (i + 1)).map (inAt c) = ((canF l c).take i).map (inAt c) ++ [inAt c x] := by rw [List.take_add_one, hx]; simp
    have e3 : natI (List.range (i + 1)) = natI (List.range i) ++ [(i : Int)] := by rw [List.range_succ]; simp [natI]
    refine ⟨i + 1, ?_, by omega, by omega⟩
    simp only [e1, e2, e3]
    exact weak_in [(200, _), (201, _), (202, 202), (203, 203), (205, 205), (207, _)] (by repeat' (first | trivial | constructor | rfl)) (by repeat' (first | trivial | constructor | rfl)) (by rfl) (by rfl) (by rfl)
  have hkd : decide ((k : Int) < (i : Int)) = true := by simp <;> omega
  have hwk := wrS (i := k) (by omega)
  have hy := List.getElem?_eq_getElem (l := canF l c) (i := k) (by omega)
  generalize hye : (canF l c)[k]'(by omega) = y at hy
  have hym := ((canF_is l c).2 y).1 (List.mem_of_getElem? hy)
  have hlt2 : cmpS (stAt l y) (stAt l x) < 0 := by
    rw [← hye, ← hxe]
    exact List.pairwise_iff_getElem.1 (canF_is l c).1 k i (by omega) (by omega) hki
  have hid : idS (stAt l y) ≠ idS (stAt l x) := by
    intro he
    have := dispS_false (hce.2.2 (ev l c y) ⟨y, hym.1, rfl⟩ (counts_ce hym.1 hym.2).2.1) he
    rw [show stAt l y = stAt l x from this.1] at hlt2
    exact cmpS_irr _ hlt2
  have p2 : ((((canF l c).take i).map (stAt l)))[k]? = some (stAt l y) := by simp [hki, hy]
  have pc : decide (cmpS (stAt l y) (stAt l x) ≥ 0) = false := by simp; omega
  generalize stAt l x = s at *
  generalize stAt l y = u at *
  obtain ⟨s1', s2, s3⟩ := s
  obtain ⟨u1, u2, u3⟩ := u
  repeat' (first
    | (with_reducible refine aw_seq ?_)
    | (with_reducible refine kont_in ?_; simp only [go_sem, reduceIte, Nat.reduceLT, Nat.reduceEqDiff, Nat.reduceAdd, Nat.reduceMul, Nat.reduceSub, Nat.reduceLeDiff, reduceCtorEq, hkd, hwk, hw, hx, p1, p2, p3, s1, d1, stD, pc, tp_frz, tp_fz])
    | (with_reducible refine dKont_in ?_; simp only [go_sem, reduceIte, Nat.reduceLT, Nat.reduceEqDiff, Nat.reduceAdd, Nat.reduceMul, Nat.reduceSub, Nat.reduceLeDiff, reduceCtorEq, hkd, hwk, hw, hx, p1, p2, p3, s1, d1, stD, pc, tp_frz, tp_fz])
    | (with_reducible refine aw_drw (by kernel_rfl) hK hD ?_; simp only [go_sem, reduceIte, Nat.reduceLT, Nat.reduceEqDiff, Nat.reduceAdd, Nat.reduceMul, Nat.reduceSub, Nat.reduceLeDiff, reduceCtorEq, hkd, hwk, hw, hx, p1, p2, p3, s1, d1, stD, pc, tp_frz, tp_fz])
    | (with_reducible refine aw_reg hK' ?_; simp only [go_sem, reduceIte, Nat.reduceLT, Nat.reduceEqDiff, Nat.reduceAdd, Nat.reduceMul, Nat.reduceSub, Nat.reduceLeDiff, reduceCtorEq, hkd, hwk, hw, hx, p1, p2, p3, s1, d1, stD, pc, tp_frz, tp_fz])
    | (with_reducible refine aw_if ?_; simp only [go_sem, reduceIte, Nat.reduceLT, Nat.reduceEqDiff, Nat.reduceAdd, Nat.reduceMul, Nat.reduceSub, Nat.reduceLeDiff, reduceCtorEq, hkd, hwk, hw, hx, p1, p2, p3, s1, d1, stD, pc, tp_frz, tp_fz])
    | (with_reducible refine aw_block ?_)
    | (with_reducible refine aw_ret ?_; (try simp only [thenQ, blockQ]); refine aw_ret' ?_; simp only [go_sem, reduceIte, Nat.reduceLT, Nat.reduceEqDiff, Nat.reduceAdd, Nat.reduceMul, Nat.reduceSub, Nat.reduceLeDiff, reduceCtorEq, hkd, hwk, hw, hx, p1, p2, p3, s1, d1, stD, pc, tp_frz, tp_fz])
    | (with_reducible refine aw_exit ?_; simp only [thenQ, blockQ, reduceIte, Nat.reduceEqDiff])
    | (with_reducible refine aw_skip ?_; simp only [thenQ, blockQ])
    | (with_reducible refine gate_intro (fun h => ?_) (fun h => ?_) <;> simp only [h, go_sem, reduceIte, Nat.reduceLT, Nat.reduceEqDiff, Nat.reduceAdd, Nat.reduceMul, Nat.reduceSub, Nat.reduceLeDiff, reduceCtorEq, hkd, hwk, hw, hx, p1, p2, p3, s1, d1, stD, pc, tp_frz, tp_fz] <;> (try simp only [decide_eq_true_eq, decide_eq_false_iff_not, Bool.not_true] at h))
    | (with_reducible refine chk_in (by kernel_rfl) ?_)
    | (with_reducible refine And.intro (And.intro (by omega) (by omega)) ?_)
    | (with_reducible refine And.intro (by omega) ?_)
    | (refine compare_call rfl (u1, u2, u3) (s1', s2, s3) rfl rfl rfl ?_)
    | (rw [get_in]; rotate_left; omega; simp only [go_sem, reduceIte, Nat.reduceLT, Nat.reduceEqDiff, Nat.reduceAdd, Nat.reduceMul, Nat.reduceSub, Nat.reduceLeDiff, reduceCtorEq, hkd, hwk, hw, hx, p1, p2, p3, s1, d1, stD, pc, tp_frz, tp_fz])
    | fail)
  all_goals first
    | exact ⟨k + 1, weak_in [(200, 200), (201, 201), (202, 202), (203, 203), (205, 205), (207, 207)] (by repeat' (first | trivial | constructor | rfl)) (by repeat' (first | trivial | constructor | rfl)) (by rfl) (by rfl) (by rfl), by omega, by omega⟩
    | (exfalso; simp_all [idS]; done)
end Go.Proofs.R1
