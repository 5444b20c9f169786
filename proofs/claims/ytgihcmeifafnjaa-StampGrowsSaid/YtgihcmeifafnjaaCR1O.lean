/- The chapter's example; the law of comparisons. -/
import Derived.Test.YtgihcmeifafnjaaCR1N
set_option linter.unusedVariables false
set_option linter.unusedSimpArgs false
set_option maxRecDepth 8000
set_option maxHeartbeats 4000000
namespace Go.Proofs.R1
open Go Go.Abs

theorem known_len (l : List St) (c : List Int) (n : Int) (h : l.length ≤ 1000000) : (knownR l c n).1.length ≤ 9223372036854775807 := by
  unfold knownR
  split
  · simp
  · split
    · simp
    · exact canR_len _ _ (by simp; omega)
theorem knownP_call {K : Kt} (hk : K 24 = some knownC) {np fid : Nat} {M : Mem} {nx : D → Mem → Prop} (l : List St) (c : List Int) (n : Int) {x y : D} (hx : fz M true 4 x = some (.sl 3 (stR l))) (hy : fz M true 4 y = some (.sl 1 (intL c))) (hp : l.length ≤ 1000000) (hf : ∀ j, M (fid + j) = none)
    (hn : nx (.tup [.row fid, i64 (knownR l c n).2]) (upd M fid (some (.row 1 (intL (knownR l c n).1) true)))) : semCall K np 24 [x, y, i64 n] M fid nx :=
  call_clR hk rfl rfl (l, c, n) (by simp only [argsV, mapO, hx, hy]; rfl) hp hf (by rintro r rfl; exact hn)
theorem knownR_call {K : Kt} (hk : K 25 = some knownC) {np fid : Nat} {M : Mem} {nx : D → Mem → Prop} (l : List St) (c : List Int) (n : Int) {x y : D} (hx : fz M true 4 x = some (.sl 3 (stR l))) (hy : fz M true 4 y = some (.sl 1 (intL c))) (hp : l.length ≤ 1000000) (hf : ∀ j, M (fid + j) = none)
    (hn : nx (.tup [.row fid, i64 (knownR l c n).2]) (upd M fid (some (.row 1 (intL (knownR l c n).1) true)))) : semCall K np 25 [x, y, i64 n] M fid nx :=
  call_clR hk rfl rfl (l, c, n) (by simp only [argsV, mapO, hx, hy]; rfl) hp hf (by rintro r rfl; exact hn)
theorem samei_call {K : Kt} (hk : K 22 = some sameC) {np fid : Nat} {M : Mem} {nx : D → Mem → Prop} {d e : D} (k l : List Int) (hd : fz M true 4 d = some (.sl 1 (intL k))) (he : fz M true 4 e = some (.sl 1 (intL l))) (hl : k.length ≤ 9223372036854775807) (hf : M fid = none) (hn : nx (bl (decide (k = l))) M) : semCall K np 22 [d, e] M fid nx :=
  call_fn hk rfl rfl (fun _ _ h => h) (k, l) (by simp only [argsV, mapO, hd, he]; rfl) hl hf hn

def exL : List St := [(5, 1, 0), (3, 2, 7), (5, 1, 0), (4, 2, 7)]
theorem can_ex : canR exL [0, 0, 0, 0] = ([0], 0) := by
  have h : canF exL [0, 0, 0, 0] = [0] := (canF_of ⟨by simp, fun i => by
    match i with
    | 0 => decide
    | 1 => decide
    | 2 => decide
    | 3 => decide
    | i + 4 => simp [exL]; intro h; omega⟩).symm
  unfold canR; rw [h]; decide
theorem known_ex : knownR exL [0, 0, 0, 0] 3 = ([1, 0], 0) := by
  have h : canF (exL.take 3) [0, 0, 0] = [1, 0] := (canF_of ⟨by decide, fun i => by
    match i with
    | 0 => decide
    | 1 => decide
    | 2 => decide
    | i + 3 => simp [exL]; intro h; omega⟩).symm
  have e : knownR exL [0, 0, 0, 0] 3 = canR (exL.take 3) [0, 0, 0] := by unfold knownR; rw [if_neg (by decide), if_neg (by decide)]; rfl
  rw [e]; unfold canR; rw [h]; decide

abbrev lawC (α : Type) (args : α → List AD) (pre : α → Prop) (kinds : List Bool) : Con where
  α := α
  kinds := kinds
  args := args
  pre := pre
  post := fun _ r => r = ⟨[.d (bl true)], []⟩
  clean := true
abbrev trueC : Con := lawC Unit (fun _ => []) (fun _ => True) []
theorem true_call {K : Kt} {f : FuncId} (hk : K f = some trueC) {np fid : Nat} {M : Mem} {nx : D → Mem → Prop} (hf : M fid = none) (hn : nx (bl true) M) : semCall K np f [] M fid nx :=
  call_fn hk rfl rfl (fun _ _ h => h) () rfl trivial hf hn
theorem awake_ok : CallOk Try.prog 16 trueC := by
  refine ok_of_body' 45 0 Try.func16 rfl (by decide) Try.ntmps16 (by intro a h; exact ⟨rfl, rfl⟩) (by decide) (by rintro _ a r _ rfl; rfl) ?_
  rintro ⟨⟩ h1
  simp only [lawC]
  simp only [initE, initMm, List.length_cons, List.length_nil, Nat.reduceAdd]
  have hK : KOk Try.prog (kOf [(20, canC), (24, knownC), (22, sameC), (12, validC)]) := kOk_cons canP_ok (kOk_cons knownP_ok (kOk_cons same_ok (kOk_cons valid_ok kOk_nil)))
  have hD : KDet (kOf [(20, canC), (24, knownC), (22, sameC), (12, validC)]) := kDet_cons (fun _ _ => ⟨_, rfl, by simp, fun _ h => h⟩) (kDet_cons (fun _ _ => ⟨_, rfl, by simp, fun _ h => h⟩) (kDet_cons (fun _ _ => ⟨_, rfl, by simp, fun _ h => h⟩) (kDet_cons (fun _ _ => ⟨_, rfl, by simp, fun _ h => h⟩) kDet_nil)))
  repeat' (first
    | (with_reducible refine aw_seq ?_)
    | (with_reducible refine kont_in ?_; simp only [go_sem, reduceIte, Nat.reduceLT, Nat.reduceEqDiff, Nat.reduceAdd, Nat.reduceMul, Nat.reduceSub, Nat.reduceLeDiff, reduceCtorEq, can_ex, known_ex])
    | (with_reducible refine dKont_in ?_; simp only [go_sem, reduceIte, Nat.reduceLT, Nat.reduceEqDiff, Nat.reduceAdd, Nat.reduceMul, Nat.reduceSub, Nat.reduceLeDiff, reduceCtorEq, can_ex, known_ex])
    | (with_reducible refine aw_drw (by kernel_rfl) hK hD ?_; simp only [go_sem, reduceIte, Nat.reduceLT, Nat.reduceEqDiff, Nat.reduceAdd, Nat.reduceMul, Nat.reduceSub, Nat.reduceLeDiff, reduceCtorEq, can_ex, known_ex])
    | (with_reducible refine aw_reg hK ?_; simp only [go_sem, reduceIte, Nat.reduceLT, Nat.reduceEqDiff, Nat.reduceAdd, Nat.reduceMul, Nat.reduceSub, Nat.reduceLeDiff, reduceCtorEq, can_ex, known_ex])
    | (with_reducible refine aw_if ?_; simp only [go_sem, reduceIte, Nat.reduceLT, Nat.reduceEqDiff, Nat.reduceAdd, Nat.reduceMul, Nat.reduceSub, Nat.reduceLeDiff, reduceCtorEq, can_ex, known_ex])
    | (with_reducible refine aw_block ?_)
    | (with_reducible refine aw_ret ?_; (try simp only [thenQ, blockQ]); refine aw_ret' ?_; simp only [go_sem, reduceIte, Nat.reduceLT, Nat.reduceEqDiff, Nat.reduceAdd, Nat.reduceMul, Nat.reduceSub, Nat.reduceLeDiff, reduceCtorEq, can_ex, known_ex])
    | (with_reducible refine aw_exit ?_; simp only [thenQ, blockQ, reduceIte, Nat.reduceEqDiff])
    | (with_reducible refine aw_skip ?_; simp only [thenQ, blockQ])
    | (with_reducible refine gate_intro (fun h => ?_) (fun h => ?_) <;> simp only [h, go_sem, reduceIte, Nat.reduceLT, Nat.reduceEqDiff, Nat.reduceAdd, Nat.reduceMul, Nat.reduceSub, Nat.reduceLeDiff, reduceCtorEq, can_ex, known_ex] <;> (try simp only [decide_eq_true_eq, decide_eq_false_iff_not, Bool.not_true] at h))
    | (with_reducible refine chk_in (by kernel_rfl) ?_)
    | (with_reducible refine And.intro (And.intro (by omega) (by omega)) ?_)
    | (with_reducible refine And.intro (by omega) ?_)
    | (refine canP_call rfl exL [0, 0, 0, 0] rfl rfl (by decide) (memOf_free rfl) ?_)
    | (refine knownP_call rfl exL [0, 0, 0, 0] 3 rfl rfl (by decide) (memOf_free rfl) ?_)
    | (refine samei_call rfl [0] [0] rfl rfl (by decide) rfl ?_)
    | (refine samei_call rfl [1, 0] [1, 0] rfl rfl (by decide) rfl ?_)
    | (refine validP_call rfl (5, 1, 0) rfl rfl ?_)
    | (rw [get_in]; rotate_left; omega; simp only [go_sem, reduceIte, Nat.reduceLT, Nat.reduceEqDiff, Nat.reduceAdd, Nat.reduceMul, Nat.reduceSub, Nat.reduceLeDiff, reduceCtorEq, can_ex, known_ex])
    | fail)
  all_goals first | rfl | (exfalso; simp_all; done)

theorem rvalidc_call {K : Kt} (hk : K 13 = some validC) {np fid : Nat} {M : Mem} {nx : D → Mem → Prop} (s : St) {d : D} (hd : d = .agg (stD s)) (hf : M fid = none) (hn : nx (bl (valS s)) M) : semCall K np 13 [d] M fid nx := by
  subst hd
  exact call_fn hk rfl rfl (fun _ _ h => h) s rfl trivial hf hn
abbrev I6 := Int × Int × Int × Int × Int × Int
abbrev comparesC : Con := lawC I6 (fun a => [.d (i64 a.1), .d (i64 a.2.1), .d (i64 a.2.2.1), .d (i64 a.2.2.2.1), .d (i64 a.2.2.2.2.1), .d (i64 a.2.2.2.2.2)]) (fun _ => True) [false, false, false, false, false, false]
theorem compares_ok : CallOk Try.prog 3 comparesC := by
  refine ok_of_body' 60 6 Try.func3 rfl (by decide) Try.ntmps3 (by intro a h; exact ⟨rfl, rfl⟩) (by decide) (by rintro _ a r _ rfl; rfl) ?_
  rintro ⟨a, b, c, d, e, f⟩ h1
  simp only [lawC]
  simp only [initE, initMm, List.length_cons, List.length_nil, Nat.reduceAdd]
  have hK : KOk Try.prog (kOf [(12, validC), (13, validC), (14, compareC), (15, compareC), (16, trueC)]) := kOk_cons valid_ok (kOk_cons rvalid_ok (kOk_cons compare_ok (kOk_cons rcompare_ok (kOk_cons awake_ok kOk_nil))))
  have hD : KDet (kOf [(12, validC), (13, validC), (14, compareC), (15, compareC), (16, trueC)]) := kDet_cons (fun _ _ => ⟨_, rfl, by simp, fun _ h => h⟩) (kDet_cons (fun _ _ => ⟨_, rfl, by simp, fun _ h => h⟩) (kDet_cons (fun _ _ => ⟨_, rfl, by simp, fun _ h => h⟩) (kDet_cons (fun _ _ => ⟨_, rfl, by simp, fun _ h => h⟩) (kDet_cons (fun _ _ => ⟨_, rfl, by simp, fun _ h => h⟩) kDet_nil))))
  have s1 : validC.srt = none := rfl
  have c1 : validC.clean = true := rfl
  have s2 : compareC.srt = none := rfl
  have c2 : compareC.clean = true := rfl
  have hv : cmpS (a, b, c) (a, b, c) = 0 := cmpS_eq.2 rfl
  repeat' (first
    | (with_reducible refine aw_seq ?_)
    | (with_reducible refine kont_in ?_; simp only [go_sem, reduceIte, Nat.reduceLT, Nat.reduceEqDiff, Nat.reduceAdd, Nat.reduceMul, Nat.reduceSub, Nat.reduceLeDiff, reduceCtorEq, s1, c1, s2, c2])
    | (with_reducible refine dKont_in ?_; simp only [go_sem, reduceIte, Nat.reduceLT, Nat.reduceEqDiff, Nat.reduceAdd, Nat.reduceMul, Nat.reduceSub, Nat.reduceLeDiff, reduceCtorEq, s1, c1, s2, c2])
    | (with_reducible refine aw_drw (by kernel_rfl) hK hD ?_; simp only [go_sem, reduceIte, Nat.reduceLT, Nat.reduceEqDiff, Nat.reduceAdd, Nat.reduceMul, Nat.reduceSub, Nat.reduceLeDiff, reduceCtorEq, s1, c1, s2, c2])
    | (with_reducible refine aw_reg hK ?_; simp only [go_sem, reduceIte, Nat.reduceLT, Nat.reduceEqDiff, Nat.reduceAdd, Nat.reduceMul, Nat.reduceSub, Nat.reduceLeDiff, reduceCtorEq, s1, c1, s2, c2])
    | (with_reducible refine aw_if ?_; simp only [go_sem, reduceIte, Nat.reduceLT, Nat.reduceEqDiff, Nat.reduceAdd, Nat.reduceMul, Nat.reduceSub, Nat.reduceLeDiff, reduceCtorEq, s1, c1, s2, c2])
    | (with_reducible refine aw_block ?_)
    | (with_reducible refine aw_ret ?_; (try simp only [thenQ, blockQ]); refine aw_ret' ?_; simp only [go_sem, reduceIte, Nat.reduceLT, Nat.reduceEqDiff, Nat.reduceAdd, Nat.reduceMul, Nat.reduceSub, Nat.reduceLeDiff, reduceCtorEq, s1, c1, s2, c2])
    | (with_reducible refine aw_exit ?_; simp only [thenQ, blockQ, reduceIte, Nat.reduceEqDiff])
    | (with_reducible refine aw_skip ?_; simp only [thenQ, blockQ])
    | (with_reducible refine gate_intro (fun h => ?_) (fun h => ?_) <;> simp only [h, go_sem, reduceIte, Nat.reduceLT, Nat.reduceEqDiff, Nat.reduceAdd, Nat.reduceMul, Nat.reduceSub, Nat.reduceLeDiff, reduceCtorEq, s1, c1, s2, c2] <;> (try simp only [decide_eq_true_eq, decide_eq_false_iff_not, Bool.not_true] at h))
    | (with_reducible refine chk_in (by kernel_rfl) ?_)
    | (with_reducible refine And.intro (And.intro (by omega) (by omega)) ?_)
    | (with_reducible refine And.intro (by omega) ?_)
    | (refine validP_call rfl (a, b, c) rfl rfl ?_)
    | (refine rvalidc_call rfl (a, b, c) rfl rfl ?_)
    | (refine compare_call rfl (a, b, c) (d, e, f) rfl rfl rfl ?_)
    | (refine rcompare_call rfl (a, b, c) (d, e, f) rfl rfl rfl ?_)
    | (refine compare_call rfl (a, b, c) (a, e, c) rfl rfl rfl ?_)
    | (refine rcompare_call rfl (a, b, c) (a, e, c) rfl rfl rfl ?_)
    | (refine compare_call rfl (a, b, c) (a, b, c) rfl rfl rfl ?_)
    | (refine true_call rfl rfl ?_)
    | (rw [get_in]; rotate_left; omega; simp only [go_sem, reduceIte, Nat.reduceLT, Nat.reduceEqDiff, Nat.reduceAdd, Nat.reduceMul, Nat.reduceSub, Nat.reduceLeDiff, reduceCtorEq, s1, c1, s2, c2])
    | fail)
  rw [hv] at h; cases h
end Go.Proofs.R1
