/- What counts, by the document. -/
import Derived.Test.YtgihcmeifafnjaaCR1G
set_option linter.unusedVariables false
set_option linter.unusedSimpArgs false
set_option maxRecDepth 8000
set_option maxHeartbeats 4000000
namespace Go.Proofs.R1
open Go Go.Abs

theorem valid_call {K : Kt} (hk : K 13 = some validC) {np fid : Nat} {M : Mem} {nx : D → Mem → Prop} (s : St) {d : D} (hd : d = .agg (stD s)) (hf : M fid = none) (hn : nx (bl (valS s)) M) : semCall K np 13 [d] M fid nx := by
  subst hd
  exact call_fn hk rfl rfl (fun _ _ h => h) s rfl trivial hf hn
theorem disputes_call {K : Kt} (hk : K 44 = some disputesC) {np fid : Nat} {M : Mem} {nx : D → Mem → Prop} (s t : St) {x y : Int} {d e : D} (hd : d = .agg (stD s)) (he : e = .agg (stD t)) (hf : M fid = none) (hn : nx (bl (dispS s t x y)) M) : semCall K np 44 [d, e, i64 x, i64 y] M fid nx := by
  subst hd; subst he
  exact call_fn hk rfl rfl (fun _ _ h => h) (s, t, x, y) rfl trivial hf hn

def inAt (c : List Int) (i : Nat) : Int := (c[i]?).getD 0
/-- What takes the event i its count. -/
def badAt (l : List St) (c : List Int) (i k : Nat) : Bool := valS (stAt l k) && (dispS (stAt l i) (stAt l k) (inAt c i) (inAt c k) || decide (k < i) && decide (stAt l k = stAt l i))
def countsS (l : List St) (c : List Int) (i : Nat) : Bool := valS (stAt l i) && (List.range l.length).all fun k => !badAt l c i k
def countsC : Con where
  α := List St × List Int × Nat
  kinds := [false, false, false]
  args := fun a => [.d (stL a.1), .d (slI a.2.1), .d (i64 a.2.2)]
  pre := fun a => a.2.2 < a.1.length ∧ a.2.1.length = a.1.length ∧ a.1.length ≤ 9223372036854775806
  post := fun a r => r = ⟨[.d (bl (countsS a.1 a.2.1 a.2.2))], []⟩
  clean := true
theorem counts_ok : CallOk Try.prog 40 countsC := by
  refine ok_of_body' 60 3 Try.func40 rfl (by decide) Try.ntmps40 (by intro a h; exact ⟨rfl, rfl⟩) (by decide) (by rintro _ a r _ rfl; rfl) ?_
  rintro ⟨l, c, i⟩ ⟨hi, hl, hm⟩
  simp only [countsC] at hi hl hm ⊢
  simp only [initE, initMm, List.length_cons, List.length_nil, Nat.reduceAdd]
  have hK : KOk Try.prog (kOf [(13, validC), (44, disputesC)]) := kOk_cons rvalid_ok (kOk_cons disputes_ok kOk_nil)
  have hD : KDet (kOf [(13, validC), (44, disputesC)]) := kDet_cons (fun _ _ => ⟨_, rfl, by simp, fun _ h => h⟩) (kDet_cons (fun _ _ => ⟨_, rfl, by simp, fun _ h => h⟩) kDet_nil)
  have s1 : validC.srt = none := rfl
  have s2 : disputesC.srt = none := rfl
  have c1 : validC.clean = true := rfl
  have c2 : disputesC.clean = true := rfl
  obtain ⟨⟨a1, a2, a3⟩, hx⟩ : ∃ x, l[i]? = some x := ⟨_, List.getElem?_eq_getElem hi⟩
  obtain ⟨ci, hci⟩ : ∃ x, c[i]? = some x := ⟨_, List.getElem?_eq_getElem (by omega)⟩
  simp only [stL, slI]
  repeat' (first
    | (with_reducible refine aw_seq ?_)
    | (with_reducible refine kont_in ?_; simp only [go_sem, reduceIte, Nat.reduceLT, Nat.reduceEqDiff, Nat.reduceAdd, Nat.reduceMul, Nat.reduceSub, Nat.reduceLeDiff, reduceCtorEq, s1, s2, c1, c2, hx, stD, Try.results40])
    | (with_reducible refine dKont_in ?_; simp only [go_sem, reduceIte, Nat.reduceLT, Nat.reduceEqDiff, Nat.reduceAdd, Nat.reduceMul, Nat.reduceSub, Nat.reduceLeDiff, reduceCtorEq, s1, s2, c1, c2, hx, stD, Try.results40])
    | (with_reducible refine aw_drw (by kernel_rfl) hK hD ?_; simp only [go_sem, reduceIte, Nat.reduceLT, Nat.reduceEqDiff, Nat.reduceAdd, Nat.reduceMul, Nat.reduceSub, Nat.reduceLeDiff, reduceCtorEq, s1, s2, c1, c2, hx, stD, Try.results40])
    | (with_reducible refine aw_reg hK ?_; simp only [go_sem, reduceIte, Nat.reduceLT, Nat.reduceEqDiff, Nat.reduceAdd, Nat.reduceMul, Nat.reduceSub, Nat.reduceLeDiff, reduceCtorEq, s1, s2, c1, c2, hx, stD, Try.results40])
    | (with_reducible refine aw_if ?_; simp only [go_sem, reduceIte, Nat.reduceLT, Nat.reduceEqDiff, Nat.reduceAdd, Nat.reduceMul, Nat.reduceSub, Nat.reduceLeDiff, reduceCtorEq, s1, s2, c1, c2, hx, stD, Try.results40])
    | (with_reducible refine aw_block ?_)
    | (with_reducible refine aw_ret ?_; (try simp only [thenQ, blockQ]); refine aw_ret' ?_; simp only [go_sem, reduceIte, Nat.reduceLT, Nat.reduceEqDiff, Nat.reduceAdd, Nat.reduceMul, Nat.reduceSub, Nat.reduceLeDiff, reduceCtorEq, s1, s2, c1, c2, hx, stD, Try.results40])
    | (with_reducible refine aw_exit ?_; simp only [thenQ, blockQ, reduceIte, Nat.reduceEqDiff])
    | (with_reducible refine aw_skip ?_; simp only [thenQ, blockQ])
    | (with_reducible refine gate_intro (fun h => ?_) (fun h => ?_) <;> simp only [h, go_sem, reduceIte, Nat.reduceLT, Nat.reduceEqDiff, Nat.reduceAdd, Nat.reduceMul, Nat.reduceSub, Nat.reduceLeDiff, reduceCtorEq, s1, s2, c1, c2, hx, stD, Try.results40] <;> (try simp only [decide_eq_true_eq, decide_eq_false_iff_not, Bool.not_true] at h))
    | (with_reducible refine chk_in (by kernel_rfl) ?_)
    | (with_reducible refine And.intro (And.intro (by omega) (by omega)) ?_)
    | (with_reducible refine And.intro (by omega) ?_)
    | (refine valid_call rfl (a1, a2, a3) rfl rfl ?_)
    | (rw [get_in]; rotate_left; omega; simp only [go_sem, reduceIte, Nat.reduceLT, Nat.reduceEqDiff, Nat.reduceAdd, Nat.reduceMul, Nat.reduceSub, Nat.reduceLeDiff, reduceCtorEq, s1, s2, c1, c2, hx, stD, Try.results40])
    | fail)
  · have hv : valS (stAt l i) = false := by simp only [stAt, hx]; simpa using h
    simp [countsS, hv]
  have hv : valS (stAt l i) = true := by simp only [stAt, hx]; simpa using h
  refine aw_loop (α := Nat) (fun k => ⟨envOf [(7, i64 k), (0, stL l), (1, slI c), (2, i64 i)], memOf [], 90⟩) (fun k => k ≤ l.length ∧ ∀ j, j < k → badAt l c i j = false) (fun k => l.length - k) 0 ⟨by omega, by intro j hj; omega⟩ (weak_sub (by simp [envOf, stL, slI])) ?_
  rintro k ⟨hk, hf⟩
  simp only [stL, slI]
  cases hy : l[k]? with
  | none =>
    have hge : l.length ≤ k := by simpa using hy
    have hc : decide ((k : Int) < (l.length : Int)) = false := by simp; omega
    repeat' (first
    | (with_reducible refine aw_seq ?_)
    | (with_reducible refine kont_in ?_; simp only [go_sem, reduceIte, Nat.reduceLT, Nat.reduceEqDiff, Nat.reduceAdd, Nat.reduceMul, Nat.reduceSub, Nat.reduceLeDiff, reduceCtorEq, hc, s1, s2, c1, c2, Try.results40])
    | (with_reducible refine dKont_in ?_; simp only [go_sem, reduceIte, Nat.reduceLT, Nat.reduceEqDiff, Nat.reduceAdd, Nat.reduceMul, Nat.reduceSub, Nat.reduceLeDiff, reduceCtorEq, hc, s1, s2, c1, c2, Try.results40])
    | (with_reducible refine aw_drw (by kernel_rfl) hK hD ?_; simp only [go_sem, reduceIte, Nat.reduceLT, Nat.reduceEqDiff, Nat.reduceAdd, Nat.reduceMul, Nat.reduceSub, Nat.reduceLeDiff, reduceCtorEq, hc, s1, s2, c1, c2, Try.results40])
    | (with_reducible refine aw_reg hK ?_; simp only [go_sem, reduceIte, Nat.reduceLT, Nat.reduceEqDiff, Nat.reduceAdd, Nat.reduceMul, Nat.reduceSub, Nat.reduceLeDiff, reduceCtorEq, hc, s1, s2, c1, c2, Try.results40])
    | (with_reducible refine aw_if ?_; simp only [go_sem, reduceIte, Nat.reduceLT, Nat.reduceEqDiff, Nat.reduceAdd, Nat.reduceMul, Nat.reduceSub, Nat.reduceLeDiff, reduceCtorEq, hc, s1, s2, c1, c2, Try.results40])
    | (with_reducible refine aw_block ?_)
    | (with_reducible refine aw_ret ?_; (try simp only [thenQ, blockQ]); refine aw_ret' ?_; simp only [go_sem, reduceIte, Nat.reduceLT, Nat.reduceEqDiff, Nat.reduceAdd, Nat.reduceMul, Nat.reduceSub, Nat.reduceLeDiff, reduceCtorEq, hc, s1, s2, c1, c2, Try.results40])
    | (with_reducible refine aw_exit ?_; simp only [thenQ, blockQ, reduceIte, Nat.reduceEqDiff])
    | (with_reducible refine aw_skip ?_; simp only [thenQ, blockQ])
    | (with_reducible refine gate_intro (fun h => ?_) (fun h => ?_) <;> simp only [h, go_sem, reduceIte, Nat.reduceLT, Nat.reduceEqDiff, Nat.reduceAdd, Nat.reduceMul, Nat.reduceSub, Nat.reduceLeDiff, reduceCtorEq, hc, s1, s2, c1, c2, Try.results40] <;> (try simp only [decide_eq_true_eq, decide_eq_false_iff_not, Bool.not_true] at h))
    | (with_reducible refine chk_in (by kernel_rfl) ?_)
    | (with_reducible refine And.intro (And.intro (by omega) (by omega)) ?_)
    | (with_reducible refine And.intro (by omega) ?_)
    | (rw [get_in]; rotate_left; omega; simp only [go_sem, reduceIte, Nat.reduceLT, Nat.reduceEqDiff, Nat.reduceAdd, Nat.reduceMul, Nat.reduceSub, Nat.reduceLeDiff, reduceCtorEq, hc, s1, s2, c1, c2, Try.results40])
    | fail)
    have : (List.range l.length).all (fun k => !badAt l c i k) = true := by
      simp only [List.all_eq_true, List.mem_range]
      intro j hj; simp [hf j (by omega)]
    simp [countsS, hv, this]
  | some s =>
    have hlt : k < l.length := by
      rcases Nat.lt_or_ge k l.length with h | h
      · exact h
      · rw [List.getElem?_eq_none h] at hy; cases hy
    have hc : decide ((k : Int) < (l.length : Int)) = true := by simp; omega
    obtain ⟨b1, b2, b3⟩ := s
    obtain ⟨ck, hck⟩ : ∃ x, c[k]? = some x := ⟨_, List.getElem?_eq_getElem (by omega)⟩
    have hb : badAt l c i k = (valS (b1, b2, b3) && (dispS (a1, a2, a3) (b1, b2, b3) ci ck || decide (k < i) && decide ((b1, b2, b3) = (a1, a2, a3)))) := by simp [badAt, stAt, inAt, hx, hy, hci, hck]
    have no : badAt l c i k = true → countsS l c i = false := fun h => by
      have : (List.range l.length).all (fun k => !badAt l c i k) = false := by
        rw [List.all_eq_false]; exact ⟨k, by simpa using hlt, by simp [h]⟩
      simp [countsS, this]
    have hw := wrS (i := k) (by omega)
    repeat' (first
    | (with_reducible refine aw_seq ?_)
    | (with_reducible refine kont_in ?_; simp only [go_sem, reduceIte, Nat.reduceLT, Nat.reduceEqDiff, Nat.reduceAdd, Nat.reduceMul, Nat.reduceSub, Nat.reduceLeDiff, reduceCtorEq, hc, hx, hy, hci, hck, stD, s1, s2, c1, c2, Try.results40])
    | (with_reducible refine dKont_in ?_; simp only [go_sem, reduceIte, Nat.reduceLT, Nat.reduceEqDiff, Nat.reduceAdd, Nat.reduceMul, Nat.reduceSub, Nat.reduceLeDiff, reduceCtorEq, hc, hx, hy, hci, hck, stD, s1, s2, c1, c2, Try.results40])
    | (with_reducible refine aw_drw (by kernel_rfl) hK hD ?_; simp only [go_sem, reduceIte, Nat.reduceLT, Nat.reduceEqDiff, Nat.reduceAdd, Nat.reduceMul, Nat.reduceSub, Nat.reduceLeDiff, reduceCtorEq, hc, hx, hy, hci, hck, stD, s1, s2, c1, c2, Try.results40])
    | (with_reducible refine aw_reg hK ?_; simp only [go_sem, reduceIte, Nat.reduceLT, Nat.reduceEqDiff, Nat.reduceAdd, Nat.reduceMul, Nat.reduceSub, Nat.reduceLeDiff, reduceCtorEq, hc, hx, hy, hci, hck, stD, s1, s2, c1, c2, Try.results40])
    | (with_reducible refine aw_if ?_; simp only [go_sem, reduceIte, Nat.reduceLT, Nat.reduceEqDiff, Nat.reduceAdd, Nat.reduceMul, Nat.reduceSub, Nat.reduceLeDiff, reduceCtorEq, hc, hx, hy, hci, hck, stD, s1, s2, c1, c2, Try.results40])
    | (with_reducible refine aw_block ?_)
    | (with_reducible refine aw_ret ?_; (try simp only [thenQ, blockQ]); refine aw_ret' ?_; simp only [go_sem, reduceIte, Nat.reduceLT, Nat.reduceEqDiff, Nat.reduceAdd, Nat.reduceMul, Nat.reduceSub, Nat.reduceLeDiff, reduceCtorEq, hc, hx, hy, hci, hck, stD, s1, s2, c1, c2, Try.results40])
    | (with_reducible refine aw_exit ?_; simp only [thenQ, blockQ, reduceIte, Nat.reduceEqDiff])
    | (with_reducible refine aw_skip ?_; simp only [thenQ, blockQ])
    | (with_reducible refine gate_intro (fun h => ?_) (fun h => ?_) <;> simp only [h, go_sem, reduceIte, Nat.reduceLT, Nat.reduceEqDiff, Nat.reduceAdd, Nat.reduceMul, Nat.reduceSub, Nat.reduceLeDiff, reduceCtorEq, hc, hx, hy, hci, hck, stD, s1, s2, c1, c2, Try.results40] <;> (try simp only [decide_eq_true_eq, decide_eq_false_iff_not, Bool.not_true] at h))
    | (with_reducible refine chk_in (by kernel_rfl) ?_)
    | (with_reducible refine And.intro (And.intro (by omega) (by omega)) ?_)
    | (with_reducible refine And.intro (by omega) ?_)
    | (refine valid_call rfl (b1, b2, b3) rfl rfl ?_)
    | (refine disputes_call rfl (a1, a2, a3) (b1, b2, b3) rfl rfl rfl ?_)
    | (rw [get_in]; rotate_left; omega; simp only [go_sem, reduceIte, Nat.reduceLT, Nat.reduceEqDiff, Nat.reduceAdd, Nat.reduceMul, Nat.reduceSub, Nat.reduceLeDiff, reduceCtorEq, hc, hx, hy, hci, hck, stD, s1, s2, c1, c2, Try.results40])
    | fail)
    all_goals first
      | (rw [no (by rw [hb]; simp_all; done)]; done)
      | (have hgo : badAt l c i k = false := by (rw [hb]; first | (simp_all; done) | (have hki : ¬ k < i := (by omega); simp only [hki, decide_false, Bool.false_and]; simp_all; done))
         refine ⟨k + 1, ⟨by omega, fun j hj => ?_⟩, by omega, weak_sub (by simp [envOf, hw])⟩
         by_cases hjk : j = k
         · subst hjk; exact hgo
         · exact hf j (by omega))
end Go.Proofs.R1
