/- The law of many events. -/
import Derived.Test.YtgihcmeifafnjaaCR1S
set_option linter.unusedVariables false
set_option linter.unusedSimpArgs false
set_option maxRecDepth 8000
set_option maxHeartbeats 8000000
namespace Go.Proofs.R1
open Go Go.Abs

def manyS (n i : Nat) : St := ((n : Int) - i, 1, (i : Int))
def manyA (n : Nat) : List St := (List.range n).map (manyS n)
def manyL (n k : Nat) : List St := manyA n ++ (manyA n).take k
theorem manyA_len (n : Nat) : (manyA n).length = n := by simp [manyA]
theorem manyL_len {n k : Nat} (h : k ≤ n) : (manyL n k).length = n + k := by simp [manyL, manyA]; omega
theorem manyL_at {n k i : Nat} (h : k ≤ n) (hi : i < n + k) : stAt (manyL n k) i = manyS n (if i < n then i else i - n) := by
  unfold stAt manyL
  split
  · rename_i hlt
    rw [List.getElem?_append_left (by simp [manyA, hlt])]
    simp [manyA, hlt]
  · rename_i hge
    rw [List.getElem?_append_right (by simp [manyA]; omega)]
    simp only [manyA, List.length_map, List.length_range]
    rw [List.getElem?_take, if_pos (by omega)]
    simp [show i - n < n by omega]
theorem many_val {n i : Nat} (h : i < n) (hn : n ≤ 400) : valS (manyS n i) = true := by
  have h1 : decide ((n : Int) - i ≤ 1000000) = true := by apply decide_eq_true; omega
  have h2 : decide ((i : Int) ≤ 9999) = true := by apply decide_eq_true; omega
  have h0 : decide (0 ≤ (n : Int) - i) = true := by apply decide_eq_true; omega
  have h3 : decide (0 ≤ (i : Int)) = true := by apply decide_eq_true; omega
  unfold valS manyS
  simp only [Bool.and_eq_true]
  exact ⟨⟨⟨⟨⟨h0, h1⟩, rfl⟩, rfl⟩, h3⟩, h2⟩
theorem many_can {n k : Nat} (h : k ≤ n) (hn : n ≤ 400) : canF (manyL n k) (List.replicate (n + k) 0) = (List.range n).reverse := by
  refine (canF_of ⟨?_, fun i => ?_⟩).symm
  · rw [List.pairwise_reverse, List.pairwise_iff_getElem]
    intro i j hi hj hij
    simp only [List.length_range] at hi hj
    simp only [List.getElem_range]
    rw [manyL_at h (by omega), manyL_at h (by omega), if_pos hi, if_pos hj, cmpS_lt]
    simp only [manyS]; omega
  · rw [List.mem_reverse, List.mem_range, manyL_len h]
    have hc : ∀ i, inAt (List.replicate (n + k) 0) i = 0 := by
      intro i; simp only [inAt, List.getElem?_replicate]; split <;> rfl
    have hv : ∀ i, i < n + k → valS (stAt (manyL n k) i) = true := by
      intro i hi
      rw [manyL_at h hi]
      split
      · exact many_val (by omega) hn
      · exact many_val (by omega) hn
    constructor
    · intro hi
      refine ⟨by omega, ?_⟩
      simp only [countsS, hv i (by omega), Bool.true_and, List.all_eq_true, List.mem_range, manyL_len h, Bool.not_eq_true']
      intro j hj
      have hvj := hv j hj
      rw [manyL_at h hj] at hvj
      simp only [badAt, Bool.true_and, hc, manyL_at h hj, hvj, manyL_at h (show i < n + k by omega), if_pos hi, Bool.or_eq_false_iff, Bool.and_eq_false_iff, decide_eq_false_iff_not]
      refine ⟨dispS_no fun he => ?_, ?_⟩
      · have he2 : ((if j < n then j else j - n : Nat) : Int) = (i : Int) := (Prod.mk.inj he).2
        have he3 : (if j < n then j else j - n) = i := by omega
        rw [he3]; exact ⟨rfl, rfl⟩
      · by_cases hji : j < i
        · right
          rw [if_pos (by omega)]
          intro he
          simp only [manyS, Prod.mk.injEq] at he
          omega
        · exact .inl hji
    · rintro ⟨hi, hct⟩
      rcases Nat.lt_or_ge i n with h' | h'
      · exact h'
      · exfalso
        simp only [countsS, Bool.and_eq_true, List.all_eq_true, List.mem_range, manyL_len h, Bool.not_eq_true'] at hct
        have := hct.2 (i - n) (by omega)
        have hvj := hv (i - n) (by omega)
        rw [manyL_at h (show i - n < n + k by omega), if_pos (show i - n < n by omega)] at hvj
        simp only [badAt, hc, manyL_at h hi, manyL_at h (show i - n < n + k by omega), if_neg (show ¬ i < n by omega), if_pos (show i - n < n by omega), hvj, Bool.true_and, Bool.or_eq_false_iff] at this
        have h2 := this.2
        simp [show i - n < i by omega] at h2

abbrev manyC : Con := lawC (Int × Int) (fun a => [.d (i64 a.1), .d (i64 a.2)]) (fun _ => True) [false, false]
theorem cutw_call {K : Kt} (hk : K 26 = some cutC) {np fid : Nat} {M : Mem} {nx : D → Mem → Prop} (x y : Int) (hp : 1 ≤ y ∧ y ≤ 9223372036854775807) (hf : M fid = none) (hn : ∀ v : Nat, (v : Int) < y → nx (i64 v) M) : semCall K np 26 [i64 x, i64 y] M fid nx := by
  refine cut_call hk (x := x) (y := y) hp.2 hf ?_
  have h1 := cutI_lo x y
  have h2 := cutI_hi x hp.1
  obtain ⟨v, hv⟩ := Int.eq_ofNat_of_zero_le h1
  rw [hv] at h2 ⊢
  exact hn v h2
theorem many_ok : CallOk Try.prog 6 manyC := by
  refine ok_of_body' 84 2 Try.func6 rfl (by decide) Try.ntmps6 (by intro a h; exact ⟨rfl, rfl⟩) (by decide) (by rintro _ a r _ rfl; rfl) ?_
  rintro ⟨x, y⟩ h1
  simp only [lawC]
  simp only [initE, initMm, List.length_cons, List.length_nil, Nat.reduceAdd]
  have hK : KOk Try.prog (kOf [(26, cutC), (20, canC), (16, trueC)]) := kOk_cons cut_ok (kOk_cons canP_ok (kOk_cons awake_ok kOk_nil))
  repeat' (first
    | (with_reducible refine aw_seq ?_)
    | (with_reducible refine kont_in ?_; simp only [go_sem, reduceIte, Nat.reduceLT, Nat.reduceEqDiff, Nat.reduceAdd, Nat.reduceMul, Nat.reduceSub, Nat.reduceLeDiff, reduceCtorEq])
    | (with_reducible refine dKont_in ?_; simp only [go_sem, reduceIte, Nat.reduceLT, Nat.reduceEqDiff, Nat.reduceAdd, Nat.reduceMul, Nat.reduceSub, Nat.reduceLeDiff, reduceCtorEq])
    | (with_reducible refine aw_drw (by kernel_rfl) hK kDet_nil ?_; simp only [go_sem, reduceIte, Nat.reduceLT, Nat.reduceEqDiff, Nat.reduceAdd, Nat.reduceMul, Nat.reduceSub, Nat.reduceLeDiff, reduceCtorEq])
    | (with_reducible refine aw_reg hK ?_; simp only [go_sem, reduceIte, Nat.reduceLT, Nat.reduceEqDiff, Nat.reduceAdd, Nat.reduceMul, Nat.reduceSub, Nat.reduceLeDiff, reduceCtorEq])
    | (with_reducible refine aw_if ?_; simp only [go_sem, reduceIte, Nat.reduceLT, Nat.reduceEqDiff, Nat.reduceAdd, Nat.reduceMul, Nat.reduceSub, Nat.reduceLeDiff, reduceCtorEq])
    | (with_reducible refine aw_block ?_)
    | (with_reducible refine aw_ret ?_; (try simp only [thenQ, blockQ]); refine aw_ret' ?_; simp only [go_sem, reduceIte, Nat.reduceLT, Nat.reduceEqDiff, Nat.reduceAdd, Nat.reduceMul, Nat.reduceSub, Nat.reduceLeDiff, reduceCtorEq])
    | (with_reducible refine aw_exit ?_; simp only [thenQ, blockQ, reduceIte, Nat.reduceEqDiff])
    | (with_reducible refine aw_skip ?_; simp only [thenQ, blockQ])
    | (with_reducible refine gate_intro (fun h => ?_) (fun h => ?_) <;> simp only [h, go_sem, reduceIte, Nat.reduceLT, Nat.reduceEqDiff, Nat.reduceAdd, Nat.reduceMul, Nat.reduceSub, Nat.reduceLeDiff, reduceCtorEq] <;> (try simp only [decide_eq_true_eq, decide_eq_false_iff_not, Bool.not_true] at h))
    | (with_reducible refine chk_in (by kernel_rfl) ?_)
    | (with_reducible refine And.intro (And.intro (by omega) (by omega)) ?_)
    | (with_reducible refine And.intro (by omega) ?_)
    | (refine cutw_call rfl x 12 (by omega) rfl (fun v0 hv0 => ?_))
    | (refine cutw_call rfl y 20 (by omega) rfl (fun k hk => ?_))
    | (rw [get_in]; rotate_left; omega; simp only [go_sem, reduceIte, Nat.reduceLT, Nat.reduceEqDiff, Nat.reduceAdd, Nat.reduceMul, Nat.reduceSub, Nat.reduceLeDiff, reduceCtorEq])
    | fail)
  have ew : IntKind.i64.wrap (295 + (v0 : Int)) = ((295 + v0 : Nat) : Int) := by rw [wr64 (by omega) (by omega)]; omega
  simp only [ew]
  generalize hn : 295 + v0 = n
  have hn1 : 295 ≤ n := by omega
  have hn2 : n ≤ 306 := by omega
  refine aw_nil 5 200 3 rfl rfl ?_
  refine aw_rounds (α := Nat) (fun i => ⟨envOf [(0, i64 n), (1, i64 k), (4, bl false), (5, .row 200), (6, i64 i)], memOf [(200, .row 3 (stR ((manyA n).take i)) true)], 300⟩)
    (fun i => i ≤ n) (fun i => n - i) 0 (Nat.zero_le _) (weak_in [(200, 200)] (by repeat' (first | trivial | constructor | rfl)) (by repeat' (first | trivial | constructor | rfl)) (by rfl) (by rfl) (by rfl)) ?_
  intro i hi
  by_cases hlt : i < n
  · have hcd : decide ((i : Int) < (n : Int)) = true := by simp <;> omega
    have hw := wrS (i := i) (by omega)
    have hw2 := wr64 (n := (n : Int) - i) (by omega) (by omega)
    have hl := manyA_len n
    repeat' (first
    | (with_reducible refine aw_seq ?_)
    | (with_reducible refine kont_in ?_; simp only [go_sem, reduceIte, Nat.reduceLT, Nat.reduceEqDiff, Nat.reduceAdd, Nat.reduceMul, Nat.reduceSub, Nat.reduceLeDiff, reduceCtorEq, hcd, hw, hw2, manyA_len])
    | (with_reducible refine dKont_in ?_; simp only [go_sem, reduceIte, Nat.reduceLT, Nat.reduceEqDiff, Nat.reduceAdd, Nat.reduceMul, Nat.reduceSub, Nat.reduceLeDiff, reduceCtorEq, hcd, hw, hw2, manyA_len])
    | (with_reducible refine aw_drw (by kernel_rfl) hK kDet_nil ?_; simp only [go_sem, reduceIte, Nat.reduceLT, Nat.reduceEqDiff, Nat.reduceAdd, Nat.reduceMul, Nat.reduceSub, Nat.reduceLeDiff, reduceCtorEq, hcd, hw, hw2, manyA_len])
    | (with_reducible refine aw_reg hK ?_; simp only [go_sem, reduceIte, Nat.reduceLT, Nat.reduceEqDiff, Nat.reduceAdd, Nat.reduceMul, Nat.reduceSub, Nat.reduceLeDiff, reduceCtorEq, hcd, hw, hw2, manyA_len])
    | (with_reducible refine aw_if ?_; simp only [go_sem, reduceIte, Nat.reduceLT, Nat.reduceEqDiff, Nat.reduceAdd, Nat.reduceMul, Nat.reduceSub, Nat.reduceLeDiff, reduceCtorEq, hcd, hw, hw2, manyA_len])
    | (with_reducible refine aw_block ?_)
    | (with_reducible refine aw_ret ?_; (try simp only [thenQ, blockQ]); refine aw_ret' ?_; simp only [go_sem, reduceIte, Nat.reduceLT, Nat.reduceEqDiff, Nat.reduceAdd, Nat.reduceMul, Nat.reduceSub, Nat.reduceLeDiff, reduceCtorEq, hcd, hw, hw2, manyA_len])
    | (with_reducible refine aw_exit ?_; simp only [thenQ, blockQ, reduceIte, Nat.reduceEqDiff])
    | (with_reducible refine aw_skip ?_; simp only [thenQ, blockQ])
    | (with_reducible refine gate_intro (fun h => ?_) (fun h => ?_) <;> simp only [h, go_sem, reduceIte, Nat.reduceLT, Nat.reduceEqDiff, Nat.reduceAdd, Nat.reduceMul, Nat.reduceSub, Nat.reduceLeDiff, reduceCtorEq, hcd, hw, hw2, manyA_len] <;> (try simp only [decide_eq_true_eq, decide_eq_false_iff_not, Bool.not_true] at h))
    | (with_reducible refine chk_in (by kernel_rfl) ?_)
    | (with_reducible refine And.intro (And.intro (by omega) (by omega)) ?_)
    | (with_reducible refine And.intro (by omega) ?_)
    | (rw [get_in]; rotate_left; omega; simp only [go_sem, reduceIte, Nat.reduceLT, Nat.reduceEqDiff, Nat.reduceAdd, Nat.reduceMul, Nat.reduceSub, Nat.reduceLeDiff, reduceCtorEq, hcd, hw, hw2, manyA_len])
    | fail)
    have e1 : stR ((manyA n).take (i + 1)) = stR ((manyA n).take i) ++ [[i64 ((n : Int) - i), i64 1, i64 i]] := by
      rw [List.take_add_one]
      simp [manyA, hlt, stR, stD, manyS]
    refine ⟨i + 1, ?_, by omega, by omega⟩
    simp only [e1]
    exact weak_in [(200, _)] (by repeat' (first | trivial | constructor | rfl)) (by repeat' (first | trivial | constructor | rfl)) (by rfl) (by rfl) (by rfl)
  have e : i = n := by omega
  subst e
  have hcd : decide ((i : Int) < (i : Int)) = false := by simp
  repeat' (first
    | (with_reducible refine aw_seq ?_)
    | (with_reducible refine kont_in ?_; simp only [go_sem, reduceIte, Nat.reduceLT, Nat.reduceEqDiff, Nat.reduceAdd, Nat.reduceMul, Nat.reduceSub, Nat.reduceLeDiff, reduceCtorEq, hcd])
    | (with_reducible refine dKont_in ?_; simp only [go_sem, reduceIte, Nat.reduceLT, Nat.reduceEqDiff, Nat.reduceAdd, Nat.reduceMul, Nat.reduceSub, Nat.reduceLeDiff, reduceCtorEq, hcd])
    | (with_reducible refine aw_drw (by kernel_rfl) hK kDet_nil ?_; simp only [go_sem, reduceIte, Nat.reduceLT, Nat.reduceEqDiff, Nat.reduceAdd, Nat.reduceMul, Nat.reduceSub, Nat.reduceLeDiff, reduceCtorEq, hcd])
    | (with_reducible refine aw_reg hK ?_; simp only [go_sem, reduceIte, Nat.reduceLT, Nat.reduceEqDiff, Nat.reduceAdd, Nat.reduceMul, Nat.reduceSub, Nat.reduceLeDiff, reduceCtorEq, hcd])
    | (with_reducible refine aw_if ?_; simp only [go_sem, reduceIte, Nat.reduceLT, Nat.reduceEqDiff, Nat.reduceAdd, Nat.reduceMul, Nat.reduceSub, Nat.reduceLeDiff, reduceCtorEq, hcd])
    | (with_reducible refine aw_block ?_)
    | (with_reducible refine aw_ret ?_; (try simp only [thenQ, blockQ]); refine aw_ret' ?_; simp only [go_sem, reduceIte, Nat.reduceLT, Nat.reduceEqDiff, Nat.reduceAdd, Nat.reduceMul, Nat.reduceSub, Nat.reduceLeDiff, reduceCtorEq, hcd])
    | (with_reducible refine aw_exit ?_; simp only [thenQ, blockQ, reduceIte, Nat.reduceEqDiff])
    | (with_reducible refine aw_skip ?_; simp only [thenQ, blockQ])
    | (with_reducible refine gate_intro (fun h => ?_) (fun h => ?_) <;> simp only [h, go_sem, reduceIte, Nat.reduceLT, Nat.reduceEqDiff, Nat.reduceAdd, Nat.reduceMul, Nat.reduceSub, Nat.reduceLeDiff, reduceCtorEq, hcd] <;> (try simp only [decide_eq_true_eq, decide_eq_false_iff_not, Bool.not_true] at h))
    | (with_reducible refine chk_in (by kernel_rfl) ?_)
    | (with_reducible refine And.intro (And.intro (by omega) (by omega)) ?_)
    | (with_reducible refine And.intro (by omega) ?_)
    | (rw [get_in]; rotate_left; omega; simp only [go_sem, reduceIte, Nat.reduceLT, Nat.reduceEqDiff, Nat.reduceAdd, Nat.reduceMul, Nat.reduceSub, Nat.reduceLeDiff, reduceCtorEq, hcd])
    | fail)
  have et : (manyA i).take i = manyA i := List.take_of_length_le (by rw [manyA_len]; omega)
  simp only [et]
  refine aw_rounds (α := Nat) (fun j => ⟨envOf [(0, i64 i), (1, i64 k), (4, bl false), (5, .row 200), (7, i64 j)], memOf [(200, .row 3 (stR (manyL i j)) true)], 400⟩)
    (fun j => j ≤ k) (fun j => k - j) 0 (Nat.zero_le _) (by
      have e0 : manyL i 0 = manyA i := by simp [manyL]
      simp only [e0]
      exact weak_in [(200, 200)] (by repeat' (first | trivial | constructor | rfl)) (by repeat' (first | trivial | constructor | rfl)) (by rfl) (by rfl) (by rfl)) ?_
  intro j hj
  by_cases hjt : j < k
  · have hcd : decide ((j : Int) < (k : Int)) = true := by simp <;> omega
    have hw := wrS (i := j) (by omega)
    have hl := manyL_len (n := i) (k := j) (by omega)
    have hx : (manyL i j)[j]? = some (manyS i j) := by
      have h1 := List.getElem?_eq_getElem (l := manyL i j) (i := j) (by omega)
      have h2 := manyL_at (n := i) (k := j) (i := j) (by omega) (by omega)
      rw [if_pos (by omega)] at h2
      simp only [stAt, h1, Option.getD_some] at h2
      rw [h1, h2]
    repeat' (first
    | (with_reducible refine aw_seq ?_)
    | (with_reducible refine kont_in ?_; simp only [go_sem, reduceIte, Nat.reduceLT, Nat.reduceEqDiff, Nat.reduceAdd, Nat.reduceMul, Nat.reduceSub, Nat.reduceLeDiff, reduceCtorEq, hcd, hw, hl, hx])
    | (with_reducible refine dKont_in ?_; simp only [go_sem, reduceIte, Nat.reduceLT, Nat.reduceEqDiff, Nat.reduceAdd, Nat.reduceMul, Nat.reduceSub, Nat.reduceLeDiff, reduceCtorEq, hcd, hw, hl, hx])
    | (with_reducible refine aw_drw (by kernel_rfl) hK kDet_nil ?_; simp only [go_sem, reduceIte, Nat.reduceLT, Nat.reduceEqDiff, Nat.reduceAdd, Nat.reduceMul, Nat.reduceSub, Nat.reduceLeDiff, reduceCtorEq, hcd, hw, hl, hx])
    | (with_reducible refine aw_reg hK ?_; simp only [go_sem, reduceIte, Nat.reduceLT, Nat.reduceEqDiff, Nat.reduceAdd, Nat.reduceMul, Nat.reduceSub, Nat.reduceLeDiff, reduceCtorEq, hcd, hw, hl, hx])
    | (with_reducible refine aw_if ?_; simp only [go_sem, reduceIte, Nat.reduceLT, Nat.reduceEqDiff, Nat.reduceAdd, Nat.reduceMul, Nat.reduceSub, Nat.reduceLeDiff, reduceCtorEq, hcd, hw, hl, hx])
    | (with_reducible refine aw_block ?_)
    | (with_reducible refine aw_ret ?_; (try simp only [thenQ, blockQ]); refine aw_ret' ?_; simp only [go_sem, reduceIte, Nat.reduceLT, Nat.reduceEqDiff, Nat.reduceAdd, Nat.reduceMul, Nat.reduceSub, Nat.reduceLeDiff, reduceCtorEq, hcd, hw, hl, hx])
    | (with_reducible refine aw_exit ?_; simp only [thenQ, blockQ, reduceIte, Nat.reduceEqDiff])
    | (with_reducible refine aw_skip ?_; simp only [thenQ, blockQ])
    | (with_reducible refine gate_intro (fun h => ?_) (fun h => ?_) <;> simp only [h, go_sem, reduceIte, Nat.reduceLT, Nat.reduceEqDiff, Nat.reduceAdd, Nat.reduceMul, Nat.reduceSub, Nat.reduceLeDiff, reduceCtorEq, hcd, hw, hl, hx] <;> (try simp only [decide_eq_true_eq, decide_eq_false_iff_not, Bool.not_true] at h))
    | (with_reducible refine chk_in (by kernel_rfl) ?_)
    | (with_reducible refine And.intro (And.intro (by omega) (by omega)) ?_)
    | (with_reducible refine And.intro (by omega) ?_)
    | (rw [get_in]; rotate_left; omega; simp only [go_sem, reduceIte, Nat.reduceLT, Nat.reduceEqDiff, Nat.reduceAdd, Nat.reduceMul, Nat.reduceSub, Nat.reduceLeDiff, reduceCtorEq, hcd, hw, hl, hx])
    | fail)
    have e1 : stR (manyL i (j + 1)) = stR (manyL i j ++ [manyS i j]) := by
      simp only [manyL, List.append_assoc]
      congr 2
      rw [List.take_add_one]
      simp [manyA, show j < i by omega]
    refine ⟨j + 1, ?_, by omega, by omega⟩
    simp only [e1]
    exact weak_in [(200, _)] (by repeat' (first | trivial | constructor | rfl)) (by repeat' (first | trivial | constructor | rfl)) (by rfl) (by rfl) (by rfl)
  have e : j = k := by omega
  subst e
  have hcd : decide ((j : Int) < (j : Int)) = false := by simp
  have hl := manyL_len (n := i) (k := j) (by omega)
  have hcan := many_can (n := i) (k := j) (by omega) (by omega)
  have hcl : (canF (manyL i j) (List.replicate (i + j) 0)).length = i := by rw [hcan]; simp
  by_cases hbig : 300 < i
  · have hr : canR (manyL i j) (List.replicate (i + j) 0) = ([], 3) := by
      unfold canR; rw [if_neg (by simp [hl]), if_pos (by omega)]
    have hcd2 : decide ((i : Int) > 300) = true := by simp; omega
    repeat' (first
    | (with_reducible refine aw_seq ?_)
    | (with_reducible refine kont_in ?_; simp only [go_sem, reduceIte, Nat.reduceLT, Nat.reduceEqDiff, Nat.reduceAdd, Nat.reduceMul, Nat.reduceSub, Nat.reduceLeDiff, reduceCtorEq, hcd, hcd2, hl, hr])
    | (with_reducible refine dKont_in ?_; simp only [go_sem, reduceIte, Nat.reduceLT, Nat.reduceEqDiff, Nat.reduceAdd, Nat.reduceMul, Nat.reduceSub, Nat.reduceLeDiff, reduceCtorEq, hcd, hcd2, hl, hr])
    | (with_reducible refine aw_drw (by kernel_rfl) hK kDet_nil ?_; simp only [go_sem, reduceIte, Nat.reduceLT, Nat.reduceEqDiff, Nat.reduceAdd, Nat.reduceMul, Nat.reduceSub, Nat.reduceLeDiff, reduceCtorEq, hcd, hcd2, hl, hr])
    | (with_reducible refine aw_reg hK ?_; simp only [go_sem, reduceIte, Nat.reduceLT, Nat.reduceEqDiff, Nat.reduceAdd, Nat.reduceMul, Nat.reduceSub, Nat.reduceLeDiff, reduceCtorEq, hcd, hcd2, hl, hr])
    | (with_reducible refine aw_if ?_; simp only [go_sem, reduceIte, Nat.reduceLT, Nat.reduceEqDiff, Nat.reduceAdd, Nat.reduceMul, Nat.reduceSub, Nat.reduceLeDiff, reduceCtorEq, hcd, hcd2, hl, hr])
    | (with_reducible refine aw_block ?_)
    | (with_reducible refine aw_ret ?_; (try simp only [thenQ, blockQ]); refine aw_ret' ?_; simp only [go_sem, reduceIte, Nat.reduceLT, Nat.reduceEqDiff, Nat.reduceAdd, Nat.reduceMul, Nat.reduceSub, Nat.reduceLeDiff, reduceCtorEq, hcd, hcd2, hl, hr])
    | (with_reducible refine aw_exit ?_; simp only [thenQ, blockQ, reduceIte, Nat.reduceEqDiff])
    | (with_reducible refine aw_skip ?_; simp only [thenQ, blockQ])
    | (with_reducible refine gate_intro (fun h => ?_) (fun h => ?_) <;> simp only [h, go_sem, reduceIte, Nat.reduceLT, Nat.reduceEqDiff, Nat.reduceAdd, Nat.reduceMul, Nat.reduceSub, Nat.reduceLeDiff, reduceCtorEq, hcd, hcd2, hl, hr] <;> (try simp only [decide_eq_true_eq, decide_eq_false_iff_not, Bool.not_true] at h))
    | (with_reducible refine chk_in (by kernel_rfl) ?_)
    | (with_reducible refine And.intro (And.intro (by omega) (by omega)) ?_)
    | (with_reducible refine And.intro (by omega) ?_)
    | (refine canP_call rfl (manyL i j) (List.replicate (i + j) 0) rfl (by simp only [go_sem, reduceIte, Nat.reduceLT, Nat.reduceEqDiff, Nat.reduceAdd, Nat.reduceMul, Nat.reduceSub, Nat.reduceLeDiff, reduceCtorEq]; simp [intL]) (by omega) (memOf_free rfl) ?_)
    | (refine true_call rfl rfl ?_)
    | (rw [get_in]; rotate_left; omega; simp only [go_sem, reduceIte, Nat.reduceLT, Nat.reduceEqDiff, Nat.reduceAdd, Nat.reduceMul, Nat.reduceSub, Nat.reduceLeDiff, reduceCtorEq, hcd, hcd2, hl, hr])
    | fail)
    all_goals first | rfl | (exfalso; revert h; decide)
  · have hr : canR (manyL i j) (List.replicate (i + j) 0) = (natI ((List.range i).reverse), 0) := by
      unfold canR; rw [if_neg (by simp [hl]), if_neg (by omega), hcan]
    have hcd2 : decide ((i : Int) > 300) = false := by simp; omega
    repeat' (first
    | (with_reducible refine aw_seq ?_)
    | (with_reducible refine kont_in ?_; simp only [go_sem, reduceIte, Nat.reduceLT, Nat.reduceEqDiff, Nat.reduceAdd, Nat.reduceMul, Nat.reduceSub, Nat.reduceLeDiff, reduceCtorEq, hcd, hcd2, hl, hr, bne_self_eq_false, List.length_reverse, List.length_range])
    | (with_reducible refine dKont_in ?_; simp only [go_sem, reduceIte, Nat.reduceLT, Nat.reduceEqDiff, Nat.reduceAdd, Nat.reduceMul, Nat.reduceSub, Nat.reduceLeDiff, reduceCtorEq, hcd, hcd2, hl, hr, bne_self_eq_false, List.length_reverse, List.length_range])
    | (with_reducible refine aw_drw (by kernel_rfl) hK kDet_nil ?_; simp only [go_sem, reduceIte, Nat.reduceLT, Nat.reduceEqDiff, Nat.reduceAdd, Nat.reduceMul, Nat.reduceSub, Nat.reduceLeDiff, reduceCtorEq, hcd, hcd2, hl, hr, bne_self_eq_false, List.length_reverse, List.length_range])
    | (with_reducible refine aw_reg hK ?_; simp only [go_sem, reduceIte, Nat.reduceLT, Nat.reduceEqDiff, Nat.reduceAdd, Nat.reduceMul, Nat.reduceSub, Nat.reduceLeDiff, reduceCtorEq, hcd, hcd2, hl, hr, bne_self_eq_false, List.length_reverse, List.length_range])
    | (with_reducible refine aw_if ?_; simp only [go_sem, reduceIte, Nat.reduceLT, Nat.reduceEqDiff, Nat.reduceAdd, Nat.reduceMul, Nat.reduceSub, Nat.reduceLeDiff, reduceCtorEq, hcd, hcd2, hl, hr, bne_self_eq_false, List.length_reverse, List.length_range])
    | (with_reducible refine aw_block ?_)
    | (with_reducible refine aw_ret ?_; (try simp only [thenQ, blockQ]); refine aw_ret' ?_; simp only [go_sem, reduceIte, Nat.reduceLT, Nat.reduceEqDiff, Nat.reduceAdd, Nat.reduceMul, Nat.reduceSub, Nat.reduceLeDiff, reduceCtorEq, hcd, hcd2, hl, hr, bne_self_eq_false, List.length_reverse, List.length_range])
    | (with_reducible refine aw_exit ?_; simp only [thenQ, blockQ, reduceIte, Nat.reduceEqDiff])
    | (with_reducible refine aw_skip ?_; simp only [thenQ, blockQ])
    | (with_reducible refine gate_intro (fun h => ?_) (fun h => ?_) <;> simp only [h, go_sem, reduceIte, Nat.reduceLT, Nat.reduceEqDiff, Nat.reduceAdd, Nat.reduceMul, Nat.reduceSub, Nat.reduceLeDiff, reduceCtorEq, hcd, hcd2, hl, hr, bne_self_eq_false, List.length_reverse, List.length_range] <;> (try simp only [decide_eq_true_eq, decide_eq_false_iff_not, Bool.not_true] at h))
    | (with_reducible refine chk_in (by kernel_rfl) ?_)
    | (with_reducible refine And.intro (And.intro (by omega) (by omega)) ?_)
    | (with_reducible refine And.intro (by omega) ?_)
    | (refine canP_call rfl (manyL i j) (List.replicate (i + j) 0) rfl (by simp only [go_sem, reduceIte, Nat.reduceLT, Nat.reduceEqDiff, Nat.reduceAdd, Nat.reduceMul, Nat.reduceSub, Nat.reduceLeDiff, reduceCtorEq]; simp [intL]) (by omega) (memOf_free rfl) ?_)
    | (refine true_call rfl rfl ?_)
    | (rw [get_in]; rotate_left; omega; simp only [go_sem, reduceIte, Nat.reduceLT, Nat.reduceEqDiff, Nat.reduceAdd, Nat.reduceMul, Nat.reduceSub, Nat.reduceLeDiff, reduceCtorEq, hcd, hcd2, hl, hr, bne_self_eq_false, List.length_reverse, List.length_range])
    | fail)
    refine aw_rounds (α := Nat) (fun j => ⟨envOf [(0, i64 i), (4, bl false), (8, .row 428), (10, i64 j)], memOf [(428, .row 1 (intL (natI ((List.range i).reverse))) true)], 500⟩)
      (fun j => j ≤ i) (fun j => i - j) 0 (Nat.zero_le _) (weak_in [(428, 428)] (by repeat' (first | trivial | constructor | rfl)) (by repeat' (first | trivial | constructor | rfl)) (by rfl) (by rfl) (by rfl)) ?_
    intro j hj
    by_cases hjt : j < i
    · have hcd : decide ((j : Int) < (i : Int)) = true := by simp <;> omega
      have hw := wrS (i := j) (by omega)
      have hw1 := wr64 (n := (i : Int) - 1) (by omega) (by omega)
      have hw2 := wr64 (n := (i : Int) - 1 - j) (by omega) (by omega)
      have hx : ((List.range i).reverse)[j]? = some (i - 1 - j) := by
        rw [List.getElem?_reverse (by simpa using hjt), List.length_range, List.getElem?_range (by omega)]
      have hq : (((i - 1 - j : Nat) : Int) != (i : Int) - 1 - j) = false := by simp; omega
      repeat' (first
    | (with_reducible refine aw_seq ?_)
    | (with_reducible refine kont_in ?_; simp only [go_sem, reduceIte, Nat.reduceLT, Nat.reduceEqDiff, Nat.reduceAdd, Nat.reduceMul, Nat.reduceSub, Nat.reduceLeDiff, reduceCtorEq, hcd, hw, hw1, hw2, hx, hq, List.length_reverse, List.length_range])
    | (with_reducible refine dKont_in ?_; simp only [go_sem, reduceIte, Nat.reduceLT, Nat.reduceEqDiff, Nat.reduceAdd, Nat.reduceMul, Nat.reduceSub, Nat.reduceLeDiff, reduceCtorEq, hcd, hw, hw1, hw2, hx, hq, List.length_reverse, List.length_range])
    | (with_reducible refine aw_drw (by kernel_rfl) hK kDet_nil ?_; simp only [go_sem, reduceIte, Nat.reduceLT, Nat.reduceEqDiff, Nat.reduceAdd, Nat.reduceMul, Nat.reduceSub, Nat.reduceLeDiff, reduceCtorEq, hcd, hw, hw1, hw2, hx, hq, List.length_reverse, List.length_range])
    | (with_reducible refine aw_reg hK ?_; simp only [go_sem, reduceIte, Nat.reduceLT, Nat.reduceEqDiff, Nat.reduceAdd, Nat.reduceMul, Nat.reduceSub, Nat.reduceLeDiff, reduceCtorEq, hcd, hw, hw1, hw2, hx, hq, List.length_reverse, List.length_range])
    | (with_reducible refine aw_if ?_; simp only [go_sem, reduceIte, Nat.reduceLT, Nat.reduceEqDiff, Nat.reduceAdd, Nat.reduceMul, Nat.reduceSub, Nat.reduceLeDiff, reduceCtorEq, hcd, hw, hw1, hw2, hx, hq, List.length_reverse, List.length_range])
    | (with_reducible refine aw_block ?_)
    | (with_reducible refine aw_ret ?_; (try simp only [thenQ, blockQ]); refine aw_ret' ?_; simp only [go_sem, reduceIte, Nat.reduceLT, Nat.reduceEqDiff, Nat.reduceAdd, Nat.reduceMul, Nat.reduceSub, Nat.reduceLeDiff, reduceCtorEq, hcd, hw, hw1, hw2, hx, hq, List.length_reverse, List.length_range])
    | (with_reducible refine aw_exit ?_; simp only [thenQ, blockQ, reduceIte, Nat.reduceEqDiff])
    | (with_reducible refine aw_skip ?_; simp only [thenQ, blockQ])
    | (with_reducible refine gate_intro (fun h => ?_) (fun h => ?_) <;> simp only [h, go_sem, reduceIte, Nat.reduceLT, Nat.reduceEqDiff, Nat.reduceAdd, Nat.reduceMul, Nat.reduceSub, Nat.reduceLeDiff, reduceCtorEq, hcd, hw, hw1, hw2, hx, hq, List.length_reverse, List.length_range] <;> (try simp only [decide_eq_true_eq, decide_eq_false_iff_not, Bool.not_true] at h))
    | (with_reducible refine chk_in (by kernel_rfl) ?_)
    | (with_reducible refine And.intro (And.intro (by omega) (by omega)) ?_)
    | (with_reducible refine And.intro (by omega) ?_)
    | (rw [get_in]; rotate_left; omega; simp only [go_sem, reduceIte, Nat.reduceLT, Nat.reduceEqDiff, Nat.reduceAdd, Nat.reduceMul, Nat.reduceSub, Nat.reduceLeDiff, reduceCtorEq, hcd, hw, hw1, hw2, hx, hq, List.length_reverse, List.length_range])
    | fail)
      exact ⟨j + 1, weak_in [(428, 428)] (by repeat' (first | trivial | constructor | rfl)) (by repeat' (first | trivial | constructor | rfl)) (by rfl) (by rfl) (by rfl), by omega, by omega⟩
    · have hcd : decide ((j : Int) < (i : Int)) = false := by simp <;> omega
      repeat' (first
    | (with_reducible refine aw_seq ?_)
    | (with_reducible refine kont_in ?_; simp only [go_sem, reduceIte, Nat.reduceLT, Nat.reduceEqDiff, Nat.reduceAdd, Nat.reduceMul, Nat.reduceSub, Nat.reduceLeDiff, reduceCtorEq, hcd])
    | (with_reducible refine dKont_in ?_; simp only [go_sem, reduceIte, Nat.reduceLT, Nat.reduceEqDiff, Nat.reduceAdd, Nat.reduceMul, Nat.reduceSub, Nat.reduceLeDiff, reduceCtorEq, hcd])
    | (with_reducible refine aw_drw (by kernel_rfl) hK kDet_nil ?_; simp only [go_sem, reduceIte, Nat.reduceLT, Nat.reduceEqDiff, Nat.reduceAdd, Nat.reduceMul, Nat.reduceSub, Nat.reduceLeDiff, reduceCtorEq, hcd])
    | (with_reducible refine aw_reg hK ?_; simp only [go_sem, reduceIte, Nat.reduceLT, Nat.reduceEqDiff, Nat.reduceAdd, Nat.reduceMul, Nat.reduceSub, Nat.reduceLeDiff, reduceCtorEq, hcd])
    | (with_reducible refine aw_if ?_; simp only [go_sem, reduceIte, Nat.reduceLT, Nat.reduceEqDiff, Nat.reduceAdd, Nat.reduceMul, Nat.reduceSub, Nat.reduceLeDiff, reduceCtorEq, hcd])
    | (with_reducible refine aw_block ?_)
    | (with_reducible refine aw_ret ?_; (try simp only [thenQ, blockQ]); refine aw_ret' ?_; simp only [go_sem, reduceIte, Nat.reduceLT, Nat.reduceEqDiff, Nat.reduceAdd, Nat.reduceMul, Nat.reduceSub, Nat.reduceLeDiff, reduceCtorEq, hcd])
    | (with_reducible refine aw_exit ?_; simp only [thenQ, blockQ, reduceIte, Nat.reduceEqDiff])
    | (with_reducible refine aw_skip ?_; simp only [thenQ, blockQ])
    | (with_reducible refine gate_intro (fun h => ?_) (fun h => ?_) <;> simp only [h, go_sem, reduceIte, Nat.reduceLT, Nat.reduceEqDiff, Nat.reduceAdd, Nat.reduceMul, Nat.reduceSub, Nat.reduceLeDiff, reduceCtorEq, hcd] <;> (try simp only [decide_eq_true_eq, decide_eq_false_iff_not, Bool.not_true] at h))
    | (with_reducible refine chk_in (by kernel_rfl) ?_)
    | (with_reducible refine And.intro (And.intro (by omega) (by omega)) ?_)
    | (with_reducible refine And.intro (by omega) ?_)
    | (refine true_call rfl rfl ?_)
    | (rw [get_in]; rotate_left; omega; simp only [go_sem, reduceIte, Nat.reduceLT, Nat.reduceEqDiff, Nat.reduceAdd, Nat.reduceMul, Nat.reduceSub, Nat.reduceLeDiff, reduceCtorEq, hcd])
    | fail)
end Go.Proofs.R1
