/- The tape. -/
import Derived.Test.YtgihcmeifafnjaaCR1B
set_option linter.unusedVariables false
set_option linter.unusedSimpArgs false
set_option maxRecDepth 8000
namespace Go.Proofs.R1
open Go Go.Abs

abbrev Tp := List Int × Nat
def tpD (t : Tp) : List D := [slI t.1, i64 t.2]
def tpOk (t : Tp) : Prop := t.2 ≤ t.1.length ∧ t.1.length ≤ 600
def raw (t : Tp) : Int × Tp := match t.1[t.2]? with
  | some x => (x, (t.1, t.2 + 1))
  | none => (0, t)
theorem raw_ok {t : Tp} (h : tpOk t) : tpOk (raw t).2 := by
  unfold raw
  split
  · rename_i x hx
    have : t.2 < t.1.length := by
      rcases Nat.lt_or_ge t.2 t.1.length with h | h
      · exact h
      · rw [List.getElem?_eq_none h] at hx; cases hx
    exact ⟨this, h.2⟩
  · exact h
def rawC : Con where
  α := Tp
  kinds := [true]
  args := fun a => [.io (tpD a)]
  pre := tpOk
  post := fun a r => r = ⟨[.d (i64 (raw a).1)], [tpD (raw a).2]⟩
  clean := false
theorem rawf_ok : CallOk Try.prog 48 rawC := by
  refine ok_of_body' 31 1 Try.func48 rfl (by decide) Try.ntmps48 (by intro a h; exact ⟨rfl, rfl⟩) (by decide) (by intro h; cases h) ?_
  rintro ⟨l, p⟩ ⟨h1, h2⟩
  simp only [rawC, tpD, slI] at h1 h2 ⊢
  simp only [initE, initMm, List.length_cons, List.length_nil, Nat.reduceAdd]
  cases hx : l[p]? with
  | none =>
    have hge : l.length ≤ p := by simpa using hx
    have hc : decide ((p : Int) ≥ (l.length : Int)) = true := by simp; omega
    repeat' (first
    | (with_reducible refine aw_seq ?_)
    | (with_reducible refine kont_in ?_; simp only [go_sem, reduceIte, Nat.reduceLT, Nat.reduceEqDiff, Nat.reduceAdd, Nat.reduceMul, Nat.reduceSub, Nat.reduceLeDiff, reduceCtorEq, hc, Try.results48])
    | (with_reducible refine dKont_in ?_; simp only [go_sem, reduceIte, Nat.reduceLT, Nat.reduceEqDiff, Nat.reduceAdd, Nat.reduceMul, Nat.reduceSub, Nat.reduceLeDiff, reduceCtorEq, hc, Try.results48])
    | (with_reducible refine aw_drw (by kernel_rfl) kOk_nil kDet_nil ?_; simp only [go_sem, reduceIte, Nat.reduceLT, Nat.reduceEqDiff, Nat.reduceAdd, Nat.reduceMul, Nat.reduceSub, Nat.reduceLeDiff, reduceCtorEq, hc, Try.results48])
    | (with_reducible refine aw_reg kOk_nil ?_; simp only [go_sem, reduceIte, Nat.reduceLT, Nat.reduceEqDiff, Nat.reduceAdd, Nat.reduceMul, Nat.reduceSub, Nat.reduceLeDiff, reduceCtorEq, hc, Try.results48])
    | (with_reducible refine aw_if ?_; simp only [go_sem, reduceIte, Nat.reduceLT, Nat.reduceEqDiff, Nat.reduceAdd, Nat.reduceMul, Nat.reduceSub, Nat.reduceLeDiff, reduceCtorEq, hc, Try.results48])
    | (with_reducible refine aw_block ?_)
    | (with_reducible refine aw_ret ?_; (try simp only [thenQ, blockQ]); refine aw_ret' ?_; simp only [go_sem, reduceIte, Nat.reduceLT, Nat.reduceEqDiff, Nat.reduceAdd, Nat.reduceMul, Nat.reduceSub, Nat.reduceLeDiff, reduceCtorEq, hc, Try.results48])
    | (with_reducible refine aw_exit ?_; simp only [thenQ, blockQ, reduceIte, Nat.reduceEqDiff])
    | (with_reducible refine aw_skip ?_; simp only [thenQ, blockQ])
    | (with_reducible refine gate_intro (fun h => ?_) (fun h => ?_) <;> simp only [h, go_sem, reduceIte, Nat.reduceLT, Nat.reduceEqDiff, Nat.reduceAdd, Nat.reduceMul, Nat.reduceSub, Nat.reduceLeDiff, reduceCtorEq, hc, Try.results48] <;> (try simp only [decide_eq_true_eq, decide_eq_false_iff_not, Bool.not_true] at h))
    | (with_reducible refine chk_in (by kernel_rfl) ?_)
    | (with_reducible refine And.intro (And.intro (by omega) (by omega)) ?_)
    | (with_reducible refine And.intro (by omega) ?_)
    | (rw [get_in]; rotate_left; omega; simp only [go_sem, reduceIte, Nat.reduceLT, Nat.reduceEqDiff, Nat.reduceAdd, Nat.reduceMul, Nat.reduceSub, Nat.reduceLeDiff, reduceCtorEq, hc, Try.results48])
    | fail)
    all_goals simp [raw, hx]
  | some x =>
    have hlt : p < l.length := by
      rcases Nat.lt_or_ge p l.length with h | h
      · exact h
      · rw [List.getElem?_eq_none h] at hx; cases hx
    have hc : decide ((p : Int) ≥ (l.length : Int)) = false := by simp; omega
    have hw : IntKind.i64.wrap ((p : Int) + 1) = ((p + 1 : Nat) : Int) := by rw [wr64 (by omega) (by omega)]; rfl
    have hw2 : IntKind.i64.wrap (((p + 1 : Nat) : Int) - 1) = (p : Int) := by rw [wr64 (by omega) (by omega)]; omega
    repeat' (first
    | (with_reducible refine aw_seq ?_)
    | (with_reducible refine kont_in ?_; simp only [go_sem, reduceIte, Nat.reduceLT, Nat.reduceEqDiff, Nat.reduceAdd, Nat.reduceMul, Nat.reduceSub, Nat.reduceLeDiff, reduceCtorEq, hc, hx, hw, hw2, Try.results48])
    | (with_reducible refine dKont_in ?_; simp only [go_sem, reduceIte, Nat.reduceLT, Nat.reduceEqDiff, Nat.reduceAdd, Nat.reduceMul, Nat.reduceSub, Nat.reduceLeDiff, reduceCtorEq, hc, hx, hw, hw2, Try.results48])
    | (with_reducible refine aw_drw (by kernel_rfl) kOk_nil kDet_nil ?_; simp only [go_sem, reduceIte, Nat.reduceLT, Nat.reduceEqDiff, Nat.reduceAdd, Nat.reduceMul, Nat.reduceSub, Nat.reduceLeDiff, reduceCtorEq, hc, hx, hw, hw2, Try.results48])
    | (with_reducible refine aw_reg kOk_nil ?_; simp only [go_sem, reduceIte, Nat.reduceLT, Nat.reduceEqDiff, Nat.reduceAdd, Nat.reduceMul, Nat.reduceSub, Nat.reduceLeDiff, reduceCtorEq, hc, hx, hw, hw2, Try.results48])
    | (with_reducible refine aw_if ?_; simp only [go_sem, reduceIte, Nat.reduceLT, Nat.reduceEqDiff, Nat.reduceAdd, Nat.reduceMul, Nat.reduceSub, Nat.reduceLeDiff, reduceCtorEq, hc, hx, hw, hw2, Try.results48])
    | (with_reducible refine aw_block ?_)
    | (with_reducible refine aw_ret ?_; (try simp only [thenQ, blockQ]); refine aw_ret' ?_; simp only [go_sem, reduceIte, Nat.reduceLT, Nat.reduceEqDiff, Nat.reduceAdd, Nat.reduceMul, Nat.reduceSub, Nat.reduceLeDiff, reduceCtorEq, hc, hx, hw, hw2, Try.results48])
    | (with_reducible refine aw_exit ?_; simp only [thenQ, blockQ, reduceIte, Nat.reduceEqDiff])
    | (with_reducible refine aw_skip ?_; simp only [thenQ, blockQ])
    | (with_reducible refine gate_intro (fun h => ?_) (fun h => ?_) <;> simp only [h, go_sem, reduceIte, Nat.reduceLT, Nat.reduceEqDiff, Nat.reduceAdd, Nat.reduceMul, Nat.reduceSub, Nat.reduceLeDiff, reduceCtorEq, hc, hx, hw, hw2, Try.results48] <;> (try simp only [decide_eq_true_eq, decide_eq_false_iff_not, Bool.not_true] at h))
    | (with_reducible refine chk_in (by kernel_rfl) ?_)
    | (with_reducible refine And.intro (And.intro (by omega) (by omega)) ?_)
    | (with_reducible refine And.intro (by omega) ?_)
    | (rw [get_in]; rotate_left; omega; simp only [go_sem, reduceIte, Nat.reduceLT, Nat.reduceEqDiff, Nat.reduceAdd, Nat.reduceMul, Nat.reduceSub, Nat.reduceLeDiff, reduceCtorEq, hc, hx, hw, hw2, Try.results48])
    | fail)
    all_goals simp [raw, hx]
theorem raw_call {K : Kt} (hk : K 48 = some rawC) {np fid id : Nat} {M : Mem} {nx : D → Mem → Prop} (t : Tp) (hm : M id = some (.cells (tpD t))) (hp : tpOk t) (hf : M fid = none)
    (hn : nx (i64 (raw t).1) (upd M id (some (.cells (tpD (raw t).2))))) : semCall K np 48 [.box id 0] M fid nx :=
  call_io hk rfl rfl (fun _ _ h => h) t (by simp [nf, hm, tpD, slI, nf0]) rfl (by simp [rawC, argsF, ioArg, hm, consAD, tpD, slI, mapO, fz, fz0]) hp hf hn

def cutI (x n : Int) : Int := if n < 1 then 0 else if x.tmod n < 0 then x.tmod n + n else x.tmod n
def cutC : Con where
  α := Int × Int
  kinds := [false, false]
  args := fun a => [.d (i64 a.1), .d (i64 a.2)]
  pre := fun a => a.2 ≤ 9223372036854775807
  post := fun a r => r = ⟨[.d (i64 (cutI a.1 a.2))], []⟩
  clean := true
theorem cut_ok : CallOk Try.prog 26 cutC := by
  refine ok_of_body' 16 2 Try.func26 rfl (by decide) Try.ntmps26 (by intro a h; exact ⟨rfl, rfl⟩) (by decide) (by rintro _ a r _ rfl; rfl) ?_
  rintro ⟨x, n⟩ hn
  simp only [cutC] at hn ⊢
  simp only [initE, initMm, List.length_cons, List.length_nil, Nat.reduceAdd]
  by_cases hn1 : n < 1
  · repeat' (first
    | (with_reducible refine aw_seq ?_)
    | (with_reducible refine kont_in ?_; simp only [go_sem, reduceIte, Nat.reduceLT, Nat.reduceEqDiff, Nat.reduceAdd, Nat.reduceMul, Nat.reduceSub, Nat.reduceLeDiff, reduceCtorEq, hn1, decide_true, Try.results26])
    | (with_reducible refine dKont_in ?_; simp only [go_sem, reduceIte, Nat.reduceLT, Nat.reduceEqDiff, Nat.reduceAdd, Nat.reduceMul, Nat.reduceSub, Nat.reduceLeDiff, reduceCtorEq, hn1, decide_true, Try.results26])
    | (with_reducible refine aw_drw (by kernel_rfl) kOk_nil kDet_nil ?_; simp only [go_sem, reduceIte, Nat.reduceLT, Nat.reduceEqDiff, Nat.reduceAdd, Nat.reduceMul, Nat.reduceSub, Nat.reduceLeDiff, reduceCtorEq, hn1, decide_true, Try.results26])
    | (with_reducible refine aw_reg kOk_nil ?_; simp only [go_sem, reduceIte, Nat.reduceLT, Nat.reduceEqDiff, Nat.reduceAdd, Nat.reduceMul, Nat.reduceSub, Nat.reduceLeDiff, reduceCtorEq, hn1, decide_true, Try.results26])
    | (with_reducible refine aw_if ?_; simp only [go_sem, reduceIte, Nat.reduceLT, Nat.reduceEqDiff, Nat.reduceAdd, Nat.reduceMul, Nat.reduceSub, Nat.reduceLeDiff, reduceCtorEq, hn1, decide_true, Try.results26])
    | (with_reducible refine aw_block ?_)
    | (with_reducible refine aw_ret ?_; (try simp only [thenQ, blockQ]); refine aw_ret' ?_; simp only [go_sem, reduceIte, Nat.reduceLT, Nat.reduceEqDiff, Nat.reduceAdd, Nat.reduceMul, Nat.reduceSub, Nat.reduceLeDiff, reduceCtorEq, hn1, decide_true, Try.results26])
    | (with_reducible refine aw_exit ?_; simp only [thenQ, blockQ, reduceIte, Nat.reduceEqDiff])
    | (with_reducible refine aw_skip ?_; simp only [thenQ, blockQ])
    | (with_reducible refine gate_intro (fun h => ?_) (fun h => ?_) <;> simp only [h, go_sem, reduceIte, Nat.reduceLT, Nat.reduceEqDiff, Nat.reduceAdd, Nat.reduceMul, Nat.reduceSub, Nat.reduceLeDiff, reduceCtorEq, hn1, decide_true, Try.results26] <;> (try simp only [decide_eq_true_eq, decide_eq_false_iff_not, Bool.not_true] at h))
    | (with_reducible refine chk_in (by kernel_rfl) ?_)
    | (with_reducible refine And.intro (And.intro (by omega) (by omega)) ?_)
    | (with_reducible refine And.intro (by omega) ?_)
    | (rw [get_in]; rotate_left; omega; simp only [go_sem, reduceIte, Nat.reduceLT, Nat.reduceEqDiff, Nat.reduceAdd, Nat.reduceMul, Nat.reduceSub, Nat.reduceLeDiff, reduceCtorEq, hn1, decide_true, Try.results26])
    | fail)
    all_goals simp [cutI, hn1]
  · have hc : decide (n < 1) = false := by simp; omega
    have h0 : n ≠ 0 := by omega
    have hw : x.tmod n < 0 → IntKind.i64.wrap (x.tmod n + n) = x.tmod n + n := fun h => by
      have := Int.lt_tmod_of_pos x (show 0 < n by omega)
      exact wr64 (by omega) (by omega)
    repeat' (first
    | (with_reducible refine aw_seq ?_)
    | (with_reducible refine kont_in ?_; simp only [go_sem, reduceIte, Nat.reduceLT, Nat.reduceEqDiff, Nat.reduceAdd, Nat.reduceMul, Nat.reduceSub, Nat.reduceLeDiff, reduceCtorEq, hc, h0, not_false_eq_true, ne_eq, Try.results26])
    | (with_reducible refine dKont_in ?_; simp only [go_sem, reduceIte, Nat.reduceLT, Nat.reduceEqDiff, Nat.reduceAdd, Nat.reduceMul, Nat.reduceSub, Nat.reduceLeDiff, reduceCtorEq, hc, h0, not_false_eq_true, ne_eq, Try.results26])
    | (with_reducible refine aw_drw (by kernel_rfl) kOk_nil kDet_nil ?_; simp only [go_sem, reduceIte, Nat.reduceLT, Nat.reduceEqDiff, Nat.reduceAdd, Nat.reduceMul, Nat.reduceSub, Nat.reduceLeDiff, reduceCtorEq, hc, h0, not_false_eq_true, ne_eq, Try.results26])
    | (with_reducible refine aw_reg kOk_nil ?_; simp only [go_sem, reduceIte, Nat.reduceLT, Nat.reduceEqDiff, Nat.reduceAdd, Nat.reduceMul, Nat.reduceSub, Nat.reduceLeDiff, reduceCtorEq, hc, h0, not_false_eq_true, ne_eq, Try.results26])
    | (with_reducible refine aw_if ?_; simp only [go_sem, reduceIte, Nat.reduceLT, Nat.reduceEqDiff, Nat.reduceAdd, Nat.reduceMul, Nat.reduceSub, Nat.reduceLeDiff, reduceCtorEq, hc, h0, not_false_eq_true, ne_eq, Try.results26])
    | (with_reducible refine aw_block ?_)
    | (with_reducible refine aw_ret ?_; (try simp only [thenQ, blockQ]); refine aw_ret' ?_; simp only [go_sem, reduceIte, Nat.reduceLT, Nat.reduceEqDiff, Nat.reduceAdd, Nat.reduceMul, Nat.reduceSub, Nat.reduceLeDiff, reduceCtorEq, hc, h0, not_false_eq_true, ne_eq, Try.results26])
    | (with_reducible refine aw_exit ?_; simp only [thenQ, blockQ, reduceIte, Nat.reduceEqDiff])
    | (with_reducible refine aw_skip ?_; simp only [thenQ, blockQ])
    | (with_reducible refine gate_intro (fun h => ?_) (fun h => ?_) <;> simp only [h, go_sem, reduceIte, Nat.reduceLT, Nat.reduceEqDiff, Nat.reduceAdd, Nat.reduceMul, Nat.reduceSub, Nat.reduceLeDiff, reduceCtorEq, hc, h0, not_false_eq_true, ne_eq, Try.results26] <;> (try simp only [decide_eq_true_eq, decide_eq_false_iff_not, Bool.not_true] at h))
    | (with_reducible refine chk_in (by kernel_rfl) ?_)
    | (with_reducible refine And.intro (And.intro (by omega) (by omega)) ?_)
    | (with_reducible refine And.intro (by omega) ?_)
    | (rw [get_in]; rotate_left; omega; simp only [go_sem, reduceIte, Nat.reduceLT, Nat.reduceEqDiff, Nat.reduceAdd, Nat.reduceMul, Nat.reduceSub, Nat.reduceLeDiff, reduceCtorEq, hc, h0, not_false_eq_true, ne_eq, Try.results26])
    | fail)
    · simp [cutI, hn1, h, hw]
    · have h' : ¬ x.tmod n < 0 := h
      simp [cutI, hn1, h']
theorem cut_call {K : Kt} (hk : K 26 = some cutC) {np fid : Nat} {M : Mem} {nx : D → Mem → Prop} {x y : Int} (hp : y ≤ 9223372036854775807) (hf : M fid = none) (hn : nx (i64 (cutI x y)) M) : semCall K np 26 [i64 x, i64 y] M fid nx :=
  call_fn hk rfl rfl (fun _ _ h => h) (x, y) rfl hp hf hn
theorem cutI_lo (x n : Int) : 0 ≤ cutI x n := by
  unfold cutI
  split
  · omega
  · split
    · have := Int.lt_tmod_of_pos x (show 0 < n by omega); omega
    · omega
theorem cutI_hi (x : Int) {n : Int} (h : 1 ≤ n) : cutI x n < n := by
  unfold cutI
  rw [if_neg (by omega)]
  split
  · omega
  · exact Int.tmod_lt_of_pos x (by omega)

/-- A method of the tape: its value, the tape behind it. -/
def tpC (g : Tp → Int → Int) (h : Tp → Int → Tp) : Con where
  α := Tp × Int
  kinds := [true, false]
  args := fun a => [.io (tpD a.1), .d (i64 a.2)]
  pre := fun a => tpOk a.1 ∧ a.2 ≤ 9223372036854775807
  post := fun a r => r = ⟨[.d (i64 (g a.1 a.2))], [tpD (h a.1 a.2)]⟩
  clean := false
theorem tp_call {K : Kt} {f : FuncId} {g : Tp → Int → Int} {h : Tp → Int → Tp} (hk : K f = some (tpC g h)) {np fid id : Nat} {M : Mem} {nx : D → Mem → Prop} (t : Tp) (n : Int) (hm : M id = some (.cells (tpD t))) (hp : tpOk t) (hn0 : n ≤ 9223372036854775807) (hf : M fid = none)
    (hn : nx (i64 (g t n)) (upd M id (some (.cells (tpD (h t n)))))) : semCall K np f [.box id 0, i64 n] M fid nx :=
  call_io hk rfl rfl (fun _ _ h => h) (t, n) (by simp [nf, hm, tpD, slI, nf0]) rfl (by simp [tpC, argsF, ioArg, hm, consAD, tpD, slI, mapO, fz, fz0]) ⟨hp, hn0⟩ hf hn

abbrev nextC : Con := tpC (fun t n => cutI (raw t).1 n) (fun t n => (raw t).2)
theorem next_ok' : CallOk Try.prog 36 nextC := by
  refine ok_of_body' 9 2 Try.func36 rfl (by decide) Try.ntmps36 (by intro a h; exact ⟨rfl, rfl⟩) (by decide) (by intro h; cases h) ?_
  rintro ⟨t, n⟩ ⟨h1, h2⟩
  simp only [nextC, tpC] at h1 h2 ⊢
  simp only [initE, initMm, List.length_cons, List.length_nil, Nat.reduceAdd]
  have hK : KOk Try.prog (kOf [(48, rawC), (26, cutC)]) := kOk_cons rawf_ok (kOk_cons cut_ok kOk_nil)
  repeat' (first
    | (with_reducible refine aw_seq ?_)
    | (with_reducible refine kont_in ?_; simp only [go_sem, reduceIte, Nat.reduceLT, Nat.reduceEqDiff, Nat.reduceAdd, Nat.reduceMul, Nat.reduceSub, Nat.reduceLeDiff, reduceCtorEq, Try.results36])
    | (with_reducible refine dKont_in ?_; simp only [go_sem, reduceIte, Nat.reduceLT, Nat.reduceEqDiff, Nat.reduceAdd, Nat.reduceMul, Nat.reduceSub, Nat.reduceLeDiff, reduceCtorEq, Try.results36])
    | (with_reducible refine aw_drw (by kernel_rfl) hK kDet_nil ?_; simp only [go_sem, reduceIte, Nat.reduceLT, Nat.reduceEqDiff, Nat.reduceAdd, Nat.reduceMul, Nat.reduceSub, Nat.reduceLeDiff, reduceCtorEq, Try.results36])
    | (with_reducible refine aw_reg hK ?_; simp only [go_sem, reduceIte, Nat.reduceLT, Nat.reduceEqDiff, Nat.reduceAdd, Nat.reduceMul, Nat.reduceSub, Nat.reduceLeDiff, reduceCtorEq, Try.results36])
    | (with_reducible refine aw_if ?_; simp only [go_sem, reduceIte, Nat.reduceLT, Nat.reduceEqDiff, Nat.reduceAdd, Nat.reduceMul, Nat.reduceSub, Nat.reduceLeDiff, reduceCtorEq, Try.results36])
    | (with_reducible refine aw_block ?_)
    | (with_reducible refine aw_ret ?_; (try simp only [thenQ, blockQ]); refine aw_ret' ?_; simp only [go_sem, reduceIte, Nat.reduceLT, Nat.reduceEqDiff, Nat.reduceAdd, Nat.reduceMul, Nat.reduceSub, Nat.reduceLeDiff, reduceCtorEq, Try.results36])
    | (with_reducible refine aw_exit ?_; simp only [thenQ, blockQ, reduceIte, Nat.reduceEqDiff])
    | (with_reducible refine aw_skip ?_; simp only [thenQ, blockQ])
    | (with_reducible refine gate_intro (fun h => ?_) (fun h => ?_) <;> simp only [h, go_sem, reduceIte, Nat.reduceLT, Nat.reduceEqDiff, Nat.reduceAdd, Nat.reduceMul, Nat.reduceSub, Nat.reduceLeDiff, reduceCtorEq, Try.results36] <;> (try simp only [decide_eq_true_eq, decide_eq_false_iff_not, Bool.not_true] at h))
    | (with_reducible refine chk_in (by kernel_rfl) ?_)
    | (with_reducible refine And.intro (And.intro (by omega) (by omega)) ?_)
    | (with_reducible refine And.intro (by omega) ?_)
    | (refine raw_call rfl t rfl h1 rfl ?_)
    | (refine cut_call rfl h2 rfl ?_)
    | (rw [get_in]; rotate_left; omega; simp only [go_sem, reduceIte, Nat.reduceLT, Nat.reduceEqDiff, Nat.reduceAdd, Nat.reduceMul, Nat.reduceSub, Nat.reduceLeDiff, reduceCtorEq, Try.results36])
    | fail)
  all_goals simp only [tpD, slI, go_sem, reduceIte, Nat.reduceLT, Nat.reduceEqDiff, Nat.reduceAdd, Nat.reduceMul, Nat.reduceSub, Nat.reduceLeDiff, reduceCtorEq]

abbrev oneC : Con := { tpC (fun _ _ => 0) (fun t n => (raw t).2) with post := fun a r => r = ⟨[.d (bl (decide (cutI (raw a.1).1 a.2 = a.2 - 1)))], [tpD (raw a.1).2]⟩, pre := fun a => tpOk a.1 ∧ 0 ≤ a.2 ∧ a.2 ≤ 9223372036854775807 }
theorem one_ok : CallOk Try.prog 19 oneC := by
  refine ok_of_body' 11 2 Try.func19 rfl (by decide) Try.ntmps19 (by intro a h; exact ⟨rfl, rfl⟩) (by decide) (by intro h; cases h) ?_
  rintro ⟨t, n⟩ ⟨h1, h0, h2⟩
  simp only [oneC, tpC] at h1 h2 h0 ⊢
  simp only [initE, initMm, List.length_cons, List.length_nil, Nat.reduceAdd]
  have hK : KOk Try.prog (kOf [(36, nextC)]) := kOk_cons next_ok' kOk_nil
  have hw : IntKind.i64.wrap (n - 1) = n - 1 := wr64 (by omega) (by omega)
  repeat' (first
    | (with_reducible refine aw_seq ?_)
    | (with_reducible refine kont_in ?_; simp only [go_sem, reduceIte, Nat.reduceLT, Nat.reduceEqDiff, Nat.reduceAdd, Nat.reduceMul, Nat.reduceSub, Nat.reduceLeDiff, reduceCtorEq, hw, Try.results19])
    | (with_reducible refine dKont_in ?_; simp only [go_sem, reduceIte, Nat.reduceLT, Nat.reduceEqDiff, Nat.reduceAdd, Nat.reduceMul, Nat.reduceSub, Nat.reduceLeDiff, reduceCtorEq, hw, Try.results19])
    | (with_reducible refine aw_drw (by kernel_rfl) hK kDet_nil ?_; simp only [go_sem, reduceIte, Nat.reduceLT, Nat.reduceEqDiff, Nat.reduceAdd, Nat.reduceMul, Nat.reduceSub, Nat.reduceLeDiff, reduceCtorEq, hw, Try.results19])
    | (with_reducible refine aw_reg hK ?_; simp only [go_sem, reduceIte, Nat.reduceLT, Nat.reduceEqDiff, Nat.reduceAdd, Nat.reduceMul, Nat.reduceSub, Nat.reduceLeDiff, reduceCtorEq, hw, Try.results19])
    | (with_reducible refine aw_if ?_; simp only [go_sem, reduceIte, Nat.reduceLT, Nat.reduceEqDiff, Nat.reduceAdd, Nat.reduceMul, Nat.reduceSub, Nat.reduceLeDiff, reduceCtorEq, hw, Try.results19])
    | (with_reducible refine aw_block ?_)
    | (with_reducible refine aw_ret ?_; (try simp only [thenQ, blockQ]); refine aw_ret' ?_; simp only [go_sem, reduceIte, Nat.reduceLT, Nat.reduceEqDiff, Nat.reduceAdd, Nat.reduceMul, Nat.reduceSub, Nat.reduceLeDiff, reduceCtorEq, hw, Try.results19])
    | (with_reducible refine aw_exit ?_; simp only [thenQ, blockQ, reduceIte, Nat.reduceEqDiff])
    | (with_reducible refine aw_skip ?_; simp only [thenQ, blockQ])
    | (with_reducible refine gate_intro (fun h => ?_) (fun h => ?_) <;> simp only [h, go_sem, reduceIte, Nat.reduceLT, Nat.reduceEqDiff, Nat.reduceAdd, Nat.reduceMul, Nat.reduceSub, Nat.reduceLeDiff, reduceCtorEq, hw, Try.results19] <;> (try simp only [decide_eq_true_eq, decide_eq_false_iff_not, Bool.not_true] at h))
    | (with_reducible refine chk_in (by kernel_rfl) ?_)
    | (with_reducible refine And.intro (And.intro (by omega) (by omega)) ?_)
    | (with_reducible refine And.intro (by omega) ?_)
    | (refine tp_call (f := 36) rfl t n rfl h1 h2 rfl ?_)
    | (rw [get_in]; rotate_left; omega; simp only [go_sem, reduceIte, Nat.reduceLT, Nat.reduceEqDiff, Nat.reduceAdd, Nat.reduceMul, Nat.reduceSub, Nat.reduceLeDiff, reduceCtorEq, hw, Try.results19])
    | fail)
  all_goals (simp only [tpD, slI, go_sem, reduceIte, Nat.reduceLT, Nat.reduceEqDiff, Nat.reduceAdd, Nat.reduceMul, Nat.reduceSub, Nat.reduceLeDiff, reduceCtorEq])
  all_goals (simp; rfl)

def rngI (t : Tp) (a b : Int) : Int := a + cutI (raw t).1 (b - a + 1)
abbrev rangeC : Con where
  α := Tp × Int × Int
  kinds := [true, false, false]
  args := fun a => [.io (tpD a.1), .d (i64 a.2.1), .d (i64 a.2.2)]
  pre := fun a => tpOk a.1 ∧ -1000000 ≤ a.2.1 ∧ a.2.1 ≤ 1000000 ∧ -1000000 ≤ a.2.2 ∧ a.2.2 ≤ 1000000
  post := fun a r => r = ⟨[.d (i64 (rngI a.1 a.2.1 a.2.2))], [tpD (raw a.1).2]⟩
  clean := false
theorem range_ok' : CallOk Try.prog 23 rangeC := by
  refine ok_of_body' 15 3 Try.func23 rfl (by decide) Try.ntmps23 (by intro a h; exact ⟨rfl, rfl⟩) (by decide) (by intro h; cases h) ?_
  rintro ⟨t, a, b⟩ ⟨h1, h2, h3, h4, h5⟩
  simp only [rangeC] at h1 h2 h3 h4 h5 ⊢
  simp only [initE, initMm, List.length_cons, List.length_nil, Nat.reduceAdd]
  have hK : KOk Try.prog (kOf [(36, nextC)]) := kOk_cons next_ok' kOk_nil
  have hw1 : IntKind.i64.wrap (b - a) = b - a := wr64 (by omega) (by omega)
  have hw2 : IntKind.i64.wrap (b - a + 1) = b - a + 1 := wr64 (by omega) (by omega)
  have hlo := cutI_lo (raw t).1 (b - a + 1)
  have hhi : cutI (raw t).1 (b - a + 1) ≤ 2000001 := by
    by_cases h : 1 ≤ b - a + 1
    · have := cutI_hi (raw t).1 h; omega
    · unfold cutI; rw [if_pos (by omega)]; omega
  have hw3 : IntKind.i64.wrap (a + cutI (raw t).1 (b - a + 1)) = a + cutI (raw t).1 (b - a + 1) := wr64 (by omega) (by omega)
  repeat' (first
    | (with_reducible refine aw_seq ?_)
    | (with_reducible refine kont_in ?_; simp only [go_sem, reduceIte, Nat.reduceLT, Nat.reduceEqDiff, Nat.reduceAdd, Nat.reduceMul, Nat.reduceSub, Nat.reduceLeDiff, reduceCtorEq, hw1, hw2, hw3, Try.results23])
    | (with_reducible refine dKont_in ?_; simp only [go_sem, reduceIte, Nat.reduceLT, Nat.reduceEqDiff, Nat.reduceAdd, Nat.reduceMul, Nat.reduceSub, Nat.reduceLeDiff, reduceCtorEq, hw1, hw2, hw3, Try.results23])
    | (with_reducible refine aw_drw (by kernel_rfl) hK kDet_nil ?_; simp only [go_sem, reduceIte, Nat.reduceLT, Nat.reduceEqDiff, Nat.reduceAdd, Nat.reduceMul, Nat.reduceSub, Nat.reduceLeDiff, reduceCtorEq, hw1, hw2, hw3, Try.results23])
    | (with_reducible refine aw_reg hK ?_; simp only [go_sem, reduceIte, Nat.reduceLT, Nat.reduceEqDiff, Nat.reduceAdd, Nat.reduceMul, Nat.reduceSub, Nat.reduceLeDiff, reduceCtorEq, hw1, hw2, hw3, Try.results23])
    | (with_reducible refine aw_if ?_; simp only [go_sem, reduceIte, Nat.reduceLT, Nat.reduceEqDiff, Nat.reduceAdd, Nat.reduceMul, Nat.reduceSub, Nat.reduceLeDiff, reduceCtorEq, hw1, hw2, hw3, Try.results23])
    | (with_reducible refine aw_block ?_)
    | (with_reducible refine aw_ret ?_; (try simp only [thenQ, blockQ]); refine aw_ret' ?_; simp only [go_sem, reduceIte, Nat.reduceLT, Nat.reduceEqDiff, Nat.reduceAdd, Nat.reduceMul, Nat.reduceSub, Nat.reduceLeDiff, reduceCtorEq, hw1, hw2, hw3, Try.results23])
    | (with_reducible refine aw_exit ?_; simp only [thenQ, blockQ, reduceIte, Nat.reduceEqDiff])
    | (with_reducible refine aw_skip ?_; simp only [thenQ, blockQ])
    | (with_reducible refine gate_intro (fun h => ?_) (fun h => ?_) <;> simp only [h, go_sem, reduceIte, Nat.reduceLT, Nat.reduceEqDiff, Nat.reduceAdd, Nat.reduceMul, Nat.reduceSub, Nat.reduceLeDiff, reduceCtorEq, hw1, hw2, hw3, Try.results23] <;> (try simp only [decide_eq_true_eq, decide_eq_false_iff_not, Bool.not_true] at h))
    | (with_reducible refine chk_in (by kernel_rfl) ?_)
    | (with_reducible refine And.intro (And.intro (by omega) (by omega)) ?_)
    | (with_reducible refine And.intro (by omega) ?_)
    | (refine tp_call (f := 36) rfl t (b - a + 1) rfl h1 (by omega) rfl ?_)
    | (rw [get_in]; rotate_left; omega; simp only [go_sem, reduceIte, Nat.reduceLT, Nat.reduceEqDiff, Nat.reduceAdd, Nat.reduceMul, Nat.reduceSub, Nat.reduceLeDiff, reduceCtorEq, hw1, hw2, hw3, Try.results23])
    | fail)
  all_goals (simp only [tpD, slI, rngI, go_sem, reduceIte, Nat.reduceLT, Nat.reduceEqDiff, Nat.reduceAdd, Nat.reduceMul, Nat.reduceSub, Nat.reduceLeDiff, reduceCtorEq])
theorem range_call {K : Kt} (hk : K 23 = some rangeC) {np fid id : Nat} {M : Mem} {nx : D → Mem → Prop} (t : Tp) (a b : Int) (hm : M id = some (.cells (tpD t))) (hp : tpOk t) (ha : -1000000 ≤ a ∧ a ≤ 1000000 ∧ -1000000 ≤ b ∧ b ≤ 1000000) (hf : M fid = none)
    (hn : nx (i64 (rngI t a b)) (upd M id (some (.cells (tpD (raw t).2))))) : semCall K np 23 [.box id 0, i64 a, i64 b] M fid nx :=
  call_io hk rfl rfl (fun _ _ h => h) (t, a, b) (by simp [nf, hm, tpD, slI, nf0]) rfl (by simp [rangeC, argsF, ioArg, hm, consAD, tpD, slI, mapO, fz, fz0]) ⟨hp, ha⟩ hf hn
theorem one_call {K : Kt} (hk : K 19 = some oneC) {np fid id : Nat} {M : Mem} {nx : D → Mem → Prop} (t : Tp) (n : Int) (hm : M id = some (.cells (tpD t))) (hp : tpOk t) (h0 : 0 ≤ n) (hn0 : n ≤ 9223372036854775807) (hf : M fid = none)
    (hn : nx (bl (decide (cutI (raw t).1 n = n - 1))) (upd M id (some (.cells (tpD (raw t).2))))) : semCall K np 19 [.box id 0, i64 n] M fid nx :=
  call_io hk rfl rfl (fun _ _ h => h) (t, n) (by simp [nf, hm, tpD, slI, nf0]) rfl (by simp [oneC, tpC, argsF, ioArg, hm, consAD, tpD, slI, mapO, fz, fz0]) ⟨hp, h0, hn0⟩ hf hn

def pickI (t : Tp) (l : List Int) : Int := (l[(cutI (raw t).1 l.length).toNat]?).getD 0
abbrev pickC : Con where
  α := Tp × List Int
  kinds := [true, false]
  args := fun a => [.io (tpD a.1), .d (slI a.2)]
  pre := fun a => tpOk a.1 ∧ 1 ≤ a.2.length ∧ a.2.length ≤ 1000000
  post := fun a r => r = ⟨[.d (i64 (pickI a.1 a.2))], [tpD (raw a.1).2]⟩
  clean := false
theorem pick_ok : CallOk Try.prog 52 pickC := by
  refine ok_of_body' 12 2 Try.func52 rfl (by decide) Try.ntmps52 (by intro a h; exact ⟨rfl, rfl⟩) (by decide) (by intro h; cases h) ?_
  rintro ⟨t, l⟩ ⟨h1, h2, h3⟩
  simp only [pickC] at h1 h2 h3 ⊢
  simp only [initE, initMm, List.length_cons, List.length_nil, Nat.reduceAdd]
  have hK : KOk Try.prog (kOf [(36, nextC)]) := kOk_cons next_ok' kOk_nil
  have hlo := cutI_lo (raw t).1 l.length
  have hhi := cutI_hi (raw t).1 (n := l.length) (by omega)
  obtain ⟨x, hx⟩ : ∃ x, l[(cutI (raw t).1 l.length).toNat]? = some x := ⟨_, List.getElem?_eq_getElem (by omega)⟩
  simp only [slI]
  repeat' (first
    | (with_reducible refine aw_seq ?_)
    | (with_reducible refine kont_in ?_; simp only [go_sem, reduceIte, Nat.reduceLT, Nat.reduceEqDiff, Nat.reduceAdd, Nat.reduceMul, Nat.reduceSub, Nat.reduceLeDiff, reduceCtorEq, hx, Try.results52])
    | (with_reducible refine dKont_in ?_; simp only [go_sem, reduceIte, Nat.reduceLT, Nat.reduceEqDiff, Nat.reduceAdd, Nat.reduceMul, Nat.reduceSub, Nat.reduceLeDiff, reduceCtorEq, hx, Try.results52])
    | (with_reducible refine aw_drw (by kernel_rfl) hK kDet_nil ?_; simp only [go_sem, reduceIte, Nat.reduceLT, Nat.reduceEqDiff, Nat.reduceAdd, Nat.reduceMul, Nat.reduceSub, Nat.reduceLeDiff, reduceCtorEq, hx, Try.results52])
    | (with_reducible refine aw_reg hK ?_; simp only [go_sem, reduceIte, Nat.reduceLT, Nat.reduceEqDiff, Nat.reduceAdd, Nat.reduceMul, Nat.reduceSub, Nat.reduceLeDiff, reduceCtorEq, hx, Try.results52])
    | (with_reducible refine aw_if ?_; simp only [go_sem, reduceIte, Nat.reduceLT, Nat.reduceEqDiff, Nat.reduceAdd, Nat.reduceMul, Nat.reduceSub, Nat.reduceLeDiff, reduceCtorEq, hx, Try.results52])
    | (with_reducible refine aw_block ?_)
    | (with_reducible refine aw_ret ?_; (try simp only [thenQ, blockQ]); refine aw_ret' ?_; simp only [go_sem, reduceIte, Nat.reduceLT, Nat.reduceEqDiff, Nat.reduceAdd, Nat.reduceMul, Nat.reduceSub, Nat.reduceLeDiff, reduceCtorEq, hx, Try.results52])
    | (with_reducible refine aw_exit ?_; simp only [thenQ, blockQ, reduceIte, Nat.reduceEqDiff])
    | (with_reducible refine aw_skip ?_; simp only [thenQ, blockQ])
    | (with_reducible refine gate_intro (fun h => ?_) (fun h => ?_) <;> simp only [h, go_sem, reduceIte, Nat.reduceLT, Nat.reduceEqDiff, Nat.reduceAdd, Nat.reduceMul, Nat.reduceSub, Nat.reduceLeDiff, reduceCtorEq, hx, Try.results52] <;> (try simp only [decide_eq_true_eq, decide_eq_false_iff_not, Bool.not_true] at h))
    | (with_reducible refine chk_in (by kernel_rfl) ?_)
    | (with_reducible refine And.intro (And.intro (by omega) (by omega)) ?_)
    | (with_reducible refine And.intro (by omega) ?_)
    | (refine tp_call (f := 36) rfl t l.length rfl h1 (by omega) rfl ?_)
    | (rw [get_in]; rotate_left; omega; simp only [go_sem, reduceIte, Nat.reduceLT, Nat.reduceEqDiff, Nat.reduceAdd, Nat.reduceMul, Nat.reduceSub, Nat.reduceLeDiff, reduceCtorEq, hx, Try.results52])
    | fail)
  all_goals (simp only [tpD, slI, pickI, go_sem, reduceIte, Nat.reduceLT, Nat.reduceEqDiff, Nat.reduceAdd, Nat.reduceMul, Nat.reduceSub, Nat.reduceLeDiff, reduceCtorEq])
  all_goals (simp [hx])
end Go.Proofs.R1
