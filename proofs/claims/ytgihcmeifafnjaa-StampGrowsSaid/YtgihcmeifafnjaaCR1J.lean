/- Stamps with classes. -/
import Derived.Test.YtgihcmeifafnjaaCR1I
set_option linter.unusedVariables false
set_option linter.unusedSimpArgs false
set_option maxRecDepth 8000
set_option maxHeartbeats 4000000
namespace Go.Proofs.R1
open Go Go.Abs

def stR (l : List St) : List (List D) := l.map stD
@[go_sem] theorem stR_len (l : List St) : (stR l).length = l.length := by simp [stR]
@[go_sem] theorem stR_take (l : List St) (n : Nat) : (stR l).take n = stR (l.take n) := by simp [stR, List.map_take]
@[go_sem] theorem stR_drop (l : List St) (n : Nat) : (stR l).drop n = stR (l.drop n) := by simp [stR, List.map_drop]
@[go_sem] theorem stR_app (l r : List St) : stR l ++ stR r = stR (l ++ r) := by simp [stR]
@[go_sem] theorem stR_app1 (l : List St) (x : St) : stR l ++ [stD x] = stR (l ++ [x]) := by simp [stR]
@[go_sem] theorem stR_get (l : List St) (n : Nat) : (stR l)[n]? = (l[n]?).map stD := by simp [stR]
@[go_sem] theorem intL_get (l : List Int) (n : Nat) : (intL l)[n]? = (l[n]?).map fun x => [i64 x] := by simp [intL]
@[go_sem] theorem stD_len (s : St) : (stD s).length = 3 := rfl
@[go_sem] theorem stD_all (s : St) : (stD s).all isCell = true := rfl
@[go_sem] theorem stD_drop (s : St) : (stD s).drop 3 = [] := rfl
@[go_sem] theorem stD_frz (np : Nat) (M : Mem) (s : St) : frzL np M (stD s) = M := rfl
@[go_sem] theorem stD_fz (M : Mem) (b : Bool) (s : St) : mapO (fz M b 1) (stD s) = some (stD s) := rfl
@[go_sem] theorem stD_take (s : St) : (stD s).take 3 = stD s := rfl

theorem stampT_call {K : Kt} (hk : K 35 = some stampC) {np fid id : Nat} {M : Mem} {nx : D → Mem → Prop} (t : Tp) (n : Int) (hm : M id = some (.cells (tpD t))) (hp : tpOk t) (h0 : 0 ≤ n ∧ n ≤ 1000000) (hf : ∀ j, M (fid + j) = none)
    (hn : ∀ s t', tpOk t' → nx (.agg (stD s)) (upd M id (some (.cells (tpD t'))))) : semCall K np 35 [.box id 0, i64 n] M fid nx :=
  call_ioR hk rfl rfl (t, n) (by simp [nf, hm, tpD, slI, nf0]) rfl (by simp [stampC, argsF, ioArg, hm, consAD, tpD, slI, mapO, fz, fz0]) ⟨hp, h0⟩ hf (by rintro r ⟨s, t', h1, rfl⟩; exact hn s t' h1)

abbrev eventsC : Con where
  α := Tp × Int × Int
  kinds := [true, false, false]
  args := fun a => [.io (tpD a.1), .d (i64 a.2.1), .d (i64 a.2.2)]
  pre := fun a => tpOk a.1 ∧ (0 ≤ a.2.1 ∧ a.2.1 ≤ 1000) ∧ 0 ≤ a.2.2 ∧ a.2.2 ≤ 1000000
  post := fun a r => ∃ (l : List St) (c : List Int) (t : Tp), tpOk t ∧ c.length = l.length ∧ (l.length : Int) ≤ a.2.1 ∧ r = ⟨[.own 3 (stR l), .own 1 (intL c)], [tpD t]⟩
  clean := false
theorem rngI_in {t : Tp} {a b : Int} (h : a ≤ b) : a ≤ rngI t a b ∧ rngI t a b ≤ b := by
  have := cutI_lo (raw t).1 (b - a + 1)
  have := cutI_hi (raw t).1 (n := b - a + 1) (by omega)
  unfold rngI; omega
theorem rng_call {K : Kt} (hk : K 23 = some rangeC) {np fid id : Nat} {M : Mem} {nx : D → Mem → Prop} (t : Tp) (a b : Int) (hm : M id = some (.cells (tpD t))) (hp : tpOk t) (ha : -1000000 ≤ a ∧ a ≤ b ∧ b ≤ 1000000) (hf : M fid = none)
    (hn : ∀ v t', tpOk t' → a ≤ v → v ≤ b → nx (i64 v) (upd M id (some (.cells (tpD t'))))) : semCall K np 23 [.box id 0, i64 a, i64 b] M fid nx :=
  range_call hk t a b hm hp (by omega) hf (hn _ _ (raw_ok hp) (rngI_in ha.2.1).1 (rngI_in ha.2.1).2)
theorem oneb_call {K : Kt} (hk : K 19 = some oneC) {np fid id : Nat} {M : Mem} {nx : D → Mem → Prop} (t : Tp) (n : Int) (hm : M id = some (.cells (tpD t))) (hp : tpOk t) (hn0 : 0 ≤ n ∧ n ≤ 9223372036854775807) (hf : M fid = none)
    (hn : ∀ b t', tpOk t' → nx (bl b) (upd M id (some (.cells (tpD t'))))) : semCall K np 19 [.box id 0, i64 n] M fid nx :=
  one_call hk t n hm hp hn0.1 hn0.2 hf (hn _ _ (raw_ok hp))

theorem events_ok : CallOk Try.prog 18 eventsC := by
  refine ok_of_body_own 52 3 Try.func18 rfl (by decide) Try.ntmps18 (by intro a h; exact ⟨rfl, rfl⟩) (by decide) (by intro h; cases h) ?_
  rintro ⟨t, most, n⟩ ⟨h1, h2, h3⟩
  simp only [eventsC] at h1 h2 h3 ⊢
  simp only [initE, initMm, List.length_cons, List.length_nil, Nat.reduceAdd]
  have hK : KOk Try.prog (kOf [(36, nextC), (23, rangeC), (35, stampC), (19, oneC)]) := kOk_cons next_ok' (kOk_cons range_ok' (kOk_cons stampT_ok (kOk_cons one_ok kOk_nil)))
  repeat' (first
    | (with_reducible refine aw_seq ?_)
    | (with_reducible refine kont_in ?_; simp only [go_sem, reduceIte, Nat.reduceLT, Nat.reduceEqDiff, Nat.reduceAdd, Nat.reduceMul, Nat.reduceSub, Nat.reduceLeDiff, reduceCtorEq, tp_frz, tp_fz])
    | (with_reducible refine dKont_in ?_; simp only [go_sem, reduceIte, Nat.reduceLT, Nat.reduceEqDiff, Nat.reduceAdd, Nat.reduceMul, Nat.reduceSub, Nat.reduceLeDiff, reduceCtorEq, tp_frz, tp_fz])
    | (with_reducible refine aw_drw (by kernel_rfl) hK kDet_nil ?_; simp only [go_sem, reduceIte, Nat.reduceLT, Nat.reduceEqDiff, Nat.reduceAdd, Nat.reduceMul, Nat.reduceSub, Nat.reduceLeDiff, reduceCtorEq, tp_frz, tp_fz])
    | (with_reducible refine aw_reg hK ?_; simp only [go_sem, reduceIte, Nat.reduceLT, Nat.reduceEqDiff, Nat.reduceAdd, Nat.reduceMul, Nat.reduceSub, Nat.reduceLeDiff, reduceCtorEq, tp_frz, tp_fz])
    | (with_reducible refine aw_if ?_; simp only [go_sem, reduceIte, Nat.reduceLT, Nat.reduceEqDiff, Nat.reduceAdd, Nat.reduceMul, Nat.reduceSub, Nat.reduceLeDiff, reduceCtorEq, tp_frz, tp_fz])
    | (with_reducible refine aw_block ?_)
    | (with_reducible refine aw_ret ?_; (try simp only [thenQ, blockQ]); refine aw_ret' ?_; simp only [go_sem, reduceIte, Nat.reduceLT, Nat.reduceEqDiff, Nat.reduceAdd, Nat.reduceMul, Nat.reduceSub, Nat.reduceLeDiff, reduceCtorEq, tp_frz, tp_fz])
    | (with_reducible refine aw_exit ?_; simp only [thenQ, blockQ, reduceIte, Nat.reduceEqDiff])
    | (with_reducible refine aw_skip ?_; simp only [thenQ, blockQ])
    | (with_reducible refine gate_intro (fun h => ?_) (fun h => ?_) <;> simp only [h, go_sem, reduceIte, Nat.reduceLT, Nat.reduceEqDiff, Nat.reduceAdd, Nat.reduceMul, Nat.reduceSub, Nat.reduceLeDiff, reduceCtorEq, tp_frz, tp_fz] <;> (try simp only [decide_eq_true_eq, decide_eq_false_iff_not, Bool.not_true] at h))
    | (with_reducible refine chk_in (by kernel_rfl) ?_)
    | (with_reducible refine And.intro (And.intro (by omega) (by omega)) ?_)
    | (with_reducible refine And.intro (by omega) ?_)
    | (refine rng_call rfl _ _ _ rfl h1 (by omega) rfl (fun k0 t0 ht0 hk0 hk1 => ?_))
    | (rw [get_in]; rotate_left; omega; simp only [go_sem, reduceIte, Nat.reduceLT, Nat.reduceEqDiff, Nat.reduceAdd, Nat.reduceMul, Nat.reduceSub, Nat.reduceLeDiff, reduceCtorEq, tp_frz, tp_fz])
    | fail)
  obtain ⟨k0, rfl⟩ := Int.eq_ofNat_of_zero_le hk0
  refine aw_nil 8 100 3 rfl rfl ?_
  refine aw_nil 9 101 1 rfl rfl ?_
  refine aw_rounds (α := Nat × List St × List Int × Tp) (fun x => ⟨envOf [(0, .box 0 0), (1, i64 most), (2, i64 n), (8, .row 100), (9, .row 101), (10, i64 x.1)], memOf [(0, .cells (tpD x.2.2.2)), (100, .row 3 (stR x.2.1) true), (101, .row 1 (intL x.2.2.1) true)], 200⟩)
    (fun x => tpOk x.2.2.2 ∧ (x.2.1.length : Int) + x.1 ≤ most ∧ x.2.2.1.length = x.2.1.length) (fun x => x.1) (k0, [], [], t0) ⟨ht0, by simp; omega, rfl⟩ (weak_in [(100, 100), (101, 101)] (by repeat' (first | trivial | constructor | rfl)) (by repeat' (first | trivial | constructor | rfl)) (by rfl) (by rfl) (by rfl)) ?_
  rintro ⟨i, l, c, t⟩ ⟨ht, hi, hl⟩
  simp only at ht hi hl ⊢
  cases i with
  | zero =>
    have hc : decide (((0 : Nat) : Int) > 0) = false := rfl
    repeat' (first
    | (with_reducible refine aw_seq ?_)
    | (with_reducible refine kont_in ?_; simp only [go_sem, reduceIte, Nat.reduceLT, Nat.reduceEqDiff, Nat.reduceAdd, Nat.reduceMul, Nat.reduceSub, Nat.reduceLeDiff, reduceCtorEq, hc, tp_frz, tp_fz])
    | (with_reducible refine dKont_in ?_; simp only [go_sem, reduceIte, Nat.reduceLT, Nat.reduceEqDiff, Nat.reduceAdd, Nat.reduceMul, Nat.reduceSub, Nat.reduceLeDiff, reduceCtorEq, hc, tp_frz, tp_fz])
    | (with_reducible refine aw_drw (by kernel_rfl) hK kDet_nil ?_; simp only [go_sem, reduceIte, Nat.reduceLT, Nat.reduceEqDiff, Nat.reduceAdd, Nat.reduceMul, Nat.reduceSub, Nat.reduceLeDiff, reduceCtorEq, hc, tp_frz, tp_fz])
    | (with_reducible refine aw_reg hK ?_; simp only [go_sem, reduceIte, Nat.reduceLT, Nat.reduceEqDiff, Nat.reduceAdd, Nat.reduceMul, Nat.reduceSub, Nat.reduceLeDiff, reduceCtorEq, hc, tp_frz, tp_fz])
    | (with_reducible refine aw_if ?_; simp only [go_sem, reduceIte, Nat.reduceLT, Nat.reduceEqDiff, Nat.reduceAdd, Nat.reduceMul, Nat.reduceSub, Nat.reduceLeDiff, reduceCtorEq, hc, tp_frz, tp_fz])
    | (with_reducible refine aw_block ?_)
    | (with_reducible refine aw_ret ?_; (try simp only [thenQ, blockQ]); refine aw_ret' ?_; simp only [go_sem, reduceIte, Nat.reduceLT, Nat.reduceEqDiff, Nat.reduceAdd, Nat.reduceMul, Nat.reduceSub, Nat.reduceLeDiff, reduceCtorEq, hc, tp_frz, tp_fz])
    | (with_reducible refine aw_exit ?_; simp only [thenQ, blockQ, reduceIte, Nat.reduceEqDiff])
    | (with_reducible refine aw_skip ?_; simp only [thenQ, blockQ])
    | (with_reducible refine gate_intro (fun h => ?_) (fun h => ?_) <;> simp only [h, go_sem, reduceIte, Nat.reduceLT, Nat.reduceEqDiff, Nat.reduceAdd, Nat.reduceMul, Nat.reduceSub, Nat.reduceLeDiff, reduceCtorEq, hc, tp_frz, tp_fz] <;> (try simp only [decide_eq_true_eq, decide_eq_false_iff_not, Bool.not_true] at h))
    | (with_reducible refine chk_in (by kernel_rfl) ?_)
    | (with_reducible refine And.intro (And.intro (by omega) (by omega)) ?_)
    | (with_reducible refine And.intro (by omega) ?_)
    | (rw [get_in]; rotate_left; omega; simp only [go_sem, reduceIte, Nat.reduceLT, Nat.reduceEqDiff, Nat.reduceAdd, Nat.reduceMul, Nat.reduceSub, Nat.reduceLeDiff, reduceCtorEq, hc, tp_frz, tp_fz])
    | fail)
    exact ⟨_, ⟨l, c, t, ht, hl, by omega, rfl⟩, OwnLe.refl _, rfl⟩
  | succ i =>
    have hc : decide (((i + 1 : Nat) : Int) > 0) = true := by simp <;> omega
    have hw : IntKind.i64.wrap (((i + 1 : Nat) : Int) - 1) = (i : Int) := by rw [wr64 (by omega) (by omega)]; omega
    repeat' (first
    | (with_reducible refine aw_seq ?_)
    | (with_reducible refine kont_in ?_; simp only [go_sem, reduceIte, Nat.reduceLT, Nat.reduceEqDiff, Nat.reduceAdd, Nat.reduceMul, Nat.reduceSub, Nat.reduceLeDiff, reduceCtorEq, hc, hw, tp_frz, tp_fz])
    | (with_reducible refine dKont_in ?_; simp only [go_sem, reduceIte, Nat.reduceLT, Nat.reduceEqDiff, Nat.reduceAdd, Nat.reduceMul, Nat.reduceSub, Nat.reduceLeDiff, reduceCtorEq, hc, hw, tp_frz, tp_fz])
    | (with_reducible refine aw_drw (by kernel_rfl) hK kDet_nil ?_; simp only [go_sem, reduceIte, Nat.reduceLT, Nat.reduceEqDiff, Nat.reduceAdd, Nat.reduceMul, Nat.reduceSub, Nat.reduceLeDiff, reduceCtorEq, hc, hw, tp_frz, tp_fz])
    | (with_reducible refine aw_reg hK ?_; simp only [go_sem, reduceIte, Nat.reduceLT, Nat.reduceEqDiff, Nat.reduceAdd, Nat.reduceMul, Nat.reduceSub, Nat.reduceLeDiff, reduceCtorEq, hc, hw, tp_frz, tp_fz])
    | (with_reducible refine aw_if ?_; simp only [go_sem, reduceIte, Nat.reduceLT, Nat.reduceEqDiff, Nat.reduceAdd, Nat.reduceMul, Nat.reduceSub, Nat.reduceLeDiff, reduceCtorEq, hc, hw, tp_frz, tp_fz])
    | (with_reducible refine aw_block ?_)
    | (with_reducible refine aw_ret ?_; (try simp only [thenQ, blockQ]); refine aw_ret' ?_; simp only [go_sem, reduceIte, Nat.reduceLT, Nat.reduceEqDiff, Nat.reduceAdd, Nat.reduceMul, Nat.reduceSub, Nat.reduceLeDiff, reduceCtorEq, hc, hw, tp_frz, tp_fz])
    | (with_reducible refine aw_exit ?_; simp only [thenQ, blockQ, reduceIte, Nat.reduceEqDiff])
    | (with_reducible refine aw_skip ?_; simp only [thenQ, blockQ])
    | (with_reducible refine gate_intro (fun h => ?_) (fun h => ?_) <;> simp only [h, go_sem, reduceIte, Nat.reduceLT, Nat.reduceEqDiff, Nat.reduceAdd, Nat.reduceMul, Nat.reduceSub, Nat.reduceLeDiff, reduceCtorEq, hc, hw, tp_frz, tp_fz] <;> (try simp only [decide_eq_true_eq, decide_eq_false_iff_not, Bool.not_true] at h))
    | (with_reducible refine chk_in (by kernel_rfl) ?_)
    | (with_reducible refine And.intro (And.intro (by omega) (by omega)) ?_)
    | (with_reducible refine And.intro (by omega) ?_)
    | (refine stampT_call rfl _ n rfl ht (by omega) (memOf_free rfl) (fun s t1 ht1 => ?_))
    | (refine next_call rfl _ _ rfl (by assumption) (by omega) rfl (fun v t2 ht2 hv _ => ?_))
    | (refine oneb_call rfl _ _ rfl (by assumption) (by omega) rfl (fun b t2 ht2 => ?_))
    | (rw [get_in]; rotate_left; omega; simp only [go_sem, reduceIte, Nat.reduceLT, Nat.reduceEqDiff, Nat.reduceAdd, Nat.reduceMul, Nat.reduceSub, Nat.reduceLeDiff, reduceCtorEq, hc, hw, tp_frz, tp_fz])
    | fail)
    all_goals exact ⟨(i, l ++ [_], c ++ [_], _), weak_in [(100, _), (101, _)] (by repeat' (first | trivial | constructor | rfl)) (by repeat' (first | trivial | constructor | rfl)) (by rfl) (by rfl) (by rfl), ⟨by assumption, by simp <;> omega, by simp <;> omega⟩, by simp <;> omega⟩
theorem events_call {K : Kt} (hk : K 18 = some eventsC) {np fid id : Nat} {M : Mem} {nx : D → Mem → Prop} (t : Tp) (most n : Int) (hm : M id = some (.cells (tpD t))) (hp : tpOk t) (h0 : (0 ≤ most ∧ most ≤ 1000) ∧ 0 ≤ n ∧ n ≤ 1000000) (hf : ∀ j, M (fid + j) = none)
    (hn : ∀ l c t', tpOk t' → c.length = l.length → (l.length : Int) ≤ most → nx (.tup [.row fid, .row (fid + 1)]) (upd (upd (upd M id (some (.cells (tpD t')))) fid (some (.row 3 (stR l) true))) (fid + 1) (some (.row 1 (intL c) true)))) : semCall K np 18 [.box id 0, i64 most, i64 n] M fid nx :=
  call_ioR hk rfl rfl (t, most, n) (by simp [nf, hm, tpD, slI, nf0]) rfl (by simp [eventsC, argsF, ioArg, hm, consAD, tpD, slI, mapO, fz, fz0]) ⟨hp, h0⟩ hf (by rintro r ⟨l, c, t', h1, h2, h3, rfl⟩; exact hn l c t' h1 h2 h3)
end Go.Proofs.R1
