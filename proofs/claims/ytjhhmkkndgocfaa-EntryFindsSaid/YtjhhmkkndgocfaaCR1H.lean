/- What counts, by the document. -/
import Derived.Test.YtjhhmkkndgocfaaCAbsQ
set_option linter.unusedVariables false
set_option linter.unusedSimpArgs false
set_option maxRecDepth 8000
set_option maxHeartbeats 4000000
namespace Go.Proofs.R1
open Go Go.Abs

theorem valid_call {K : Kt} (hk : K 72 = some validC) {np fid : Nat} {M : Mem} {nx : D → Mem → Prop} (s : St) {d : D} (hd : d = .agg (stD s)) (hf : M fid = none) (hn : nx (bl (valS s)) M) : semCall K np 72 [d] M fid nx := by
  subst hd
  exact call_fn hk rfl rfl (fun _ _ h => h) s rfl trivial hf hn
theorem disputes_call {K : Kt} (hk : K 73 = some disputesC) {np fid : Nat} {M : Mem} {nx : D → Mem → Prop} (s t : St) {x y : Int} {d e : D} (hd : d = .agg (stD s)) (he : e = .agg (stD t)) (hf : M fid = none) (hn : nx (bl (dispS s t x y)) M) : semCall K np 73 [d, e, i64 x, i64 y] M fid nx := by
  subst hd; subst he
  exact call_fn hk rfl rfl (fun _ _ h => h) (s, t, x, y) rfl trivial hf hn

def inAt (c : List Int) (i : Nat) : Int := (c[i]?).getD 0
/-- What takes the event i its count. -/
def badAt (l : List St) (c : List Int) (i k : Nat) : Bool := valS (stAt l k) && (dispS (stAt l i) (stAt l k) (inAt c i) (inAt c k) || decide (k < i) && decide (stAt l k = stAt l i))
def countsS (l : List St) (c : List Int) (i : Nat) : Bool := valS (stAt l i) && (List.range l.length).all fun k => !badAt l c i k
def countsC : Con where
  α := List St × List Int × Nat
  kinds := [false, false, false]
  args := fun a => [.d (stL a.1), .d (slI a.2.1), .d (i64 a.2.2)]
  pre := fun a => a.2.2 < a.1.length ∧ a.2.1.length = a.1.length ∧ a.1.length ≤ 9223372036854775806
  post := fun a r => r = ⟨[.d (bl (countsS a.1 a.2.1 a.2.2))], []⟩
  clean := true
theorem counts_ok : CallOk Try.prog 61 countsC := by
  refine ok_of_body' 60 3 Try.func61 rfl (by decide) Try.ntmps61 (by intro a h; exact ⟨rfl, rfl⟩) (by decide) (by rintro _ a r _ rfl; rfl) ?_
  rintro ⟨l, c, i⟩ ⟨hi, hl, hm⟩
  simp only [countsC] at hi hl hm ⊢
  simp only [initE, initMm, List.length_cons, List.length_nil, Nat.reduceAdd]
  have hK : KOk Try.prog (kOf [(72, validC), (73, disputesC)]) := kOk_cons rvalid_ok (kOk_cons disputes_ok kOk_nil)
  have hD : KDet (kOf [(72, validC), (73, disputesC)]) := kDet_cons (fun _ _ => ⟨_, rfl, by simp, fun _ h => h⟩) (kDet_cons (fun _ _ => ⟨_, rfl, by simp, fun _ h => h⟩) kDet_nil)
  have s1 : validC.srt = none := rfl
  have s2 : disputesC.srt = none := rfl
  have c1 : validC.clean = true := rfl
  have c2 : disputesC.clean = true := rfl
  obtain ⟨⟨a1, a2, a3⟩, hx⟩ : ∃ x, l[i]? = some x := ⟨_, List.getElem?_eq_getElem hi⟩
  obtain ⟨ci, hci⟩ : ∃ x, c[i]? = some x := ⟨_, List.getElem?_eq_getElem (by omega)⟩
  simp only [stL, slI]
  repeat' (first
    | (with_reducible refine aw_seq ?_)
    | (with_reducible refine kont_in ?_; simp only [go_sem, reduceIte, Nat.reduceLT, Nat.reduceEqDiff, Nat.reduceAdd, Nat.reduceMul, Nat.reduceSub, Nat.reduceLeDiff, reduceCtorEq, s1, s2, c1, c2, hx, stD, Try.results61])
    | (with_reducible refine dKont_in ?_; simp only [go_sem, reduceIte, Nat.reduceLT, Nat.reduceEqDiff, Nat.reduceAdd, Nat.reduceMul, Nat.reduceSub, Nat.reduceLeDiff, reduceCtorEq, s1, s2, c1, c2, hx, stD, Try.results61])
    | (with_reducible refine aw_drw (by kernel_rfl) hK hD ?_; simp only [go_sem, reduceIte, Nat.reduceLT, Nat.reduceEqDiff, Nat.reduceAdd, Nat.reduceMul, Nat.reduceSub, Nat.reduceLeDiff, reduceCtorEq, s1, s2, c1, c2, hx, stD, Try.results61])
    | (with_reducible refine aw_reg hK ?_; simp only [go_sem, reduceIte, Nat.reduceLT, Nat.reduceEqDiff, Nat.reduceAdd, Nat.reduceMul, Nat.reduceSub, Nat.reduceLeDiff, reduceCtorEq, s1, s2, c1, c2, hx, stD, Try.results61])
    | (with_reducible refine aw_if ?_; simp only [go_sem, reduceIte, Nat.reduceLT, Nat.reduceEqDiff, Nat.reduceAdd, Nat.reduceMul, Nat.reduceSub, Nat.reduceLeDiff, reduceCtorEq, s1, s2, c1, c2, hx, stD, Try.results61])
    | (with_reducible refine aw_block ?_)
    | (with_reducible refine aw_ret ?_; (try simp only [thenQ, blockQ]); refine aw_ret' ?_; simp only [go_sem, reduceIte, Nat.reduceLT, Nat.reduceEqDiff, Nat.reduceAdd, Nat.reduceMul, Nat.reduceSub, Nat.reduceLeDiff, reduceCtorEq, s1, s2, c1, c2, hx, stD, Try.results61])
    | (with_reducible refine aw_exit ?_; simp only [thenQ, blockQ, reduceIte, Nat.reduceEqDiff])
    | (with_reducible refine aw_skip ?_; simp only [thenQ, blockQ])
    | (with_reducible refine gate_intro (fun h => ?_) (fun h => ?_) <;> simp only [h, go_sem, reduceIte, Nat.reduceLT, Nat.reduceEqDiff, Nat.reduceAdd, Nat.reduceMul, Nat.reduceSub, Nat.reduceLeDiff, reduceCtorEq, s1, s2, c1, c2, hx, stD, Try.results61] <;> (try simp only [decide_eq_true_eq, decide_eq_false_iff_not, Bool.not_true] at h))
    | (with_reducible refine chk_in (by kernel_rfl) ?_)
    | (with_reducible refine And.intro (And.intro (by omega) (by omega)) ?_)
    | (with_reducible refine And.intro (by omega) ?_)
    | (refine valid_call rfl (a1, a2, a3) rfl rfl ?_)
    | (rw [get_in]; rotate_left; omega; simp only [go_sem, reduceIte, Nat.reduceLT, Nat.reduceEqDiff, Nat.reduceAdd, Nat.reduceMul, Nat.reduceSub, Nat.reduceLeDiff, reduceCtorEq, s1, s2, c1, c2, hx, stD, Try.results61])
    | fail)
  · have hv : valS (stAt l i) = false := by simp only [stAt, hx]; simpa using h
    simp [countsS, hv]
  have hv : valS (stAt l i) = true := by simp only [stAt, hx]; simpa using h
  refine aw_loop (α := Nat) (fun k => ⟨envOf [(7, i64 k), (0, stL l), (1, slI c), (2, i64 i)], memOf [], 90⟩) (fun k => k ≤ l.length ∧ ∀ j, j < k → badAt l c i j = false) (fun k => l.length - k) 0 ⟨by omega, by intro j hj; omega⟩ (weak_sub (by simp [envOf, stL, slI])) ?_
  rintro k ⟨hk, hf⟩
  simp only [stL, slI]
  cases hy : l[k]? with
  | none =>
    have hge : l.length ≤ k := by simpa using hy
    have hc : decide ((k : Int) < (l.length : Int)) = false := by simp; omega
    repeat' (first
    | (with_reducible refine aw_seq ?_)
    | (with_reducible refine kont_in ?_; simp only [go_sem, reduceIte, Nat.reduceLT, Nat.reduceEqDiff, Nat.reduceAdd, Nat.reduceMul, Nat.reduceSub, Nat.reduceLeDiff, reduceCtorEq, hc, s1, s2, c1, c2, Try.results61])
    | (with_reducible refine dKont_in ?_; simp only [go_sem, reduceIte, Nat.reduceLT, Nat.reduceEqDiff, Nat.reduceAdd, Nat.reduceMul, Nat.reduceSub, Nat.reduceLeDiff, reduceCtorEq, hc, s1, s2, c1, c2, Try.results61])
    | (with_reducible refine aw_drw (by kernel_rfl) hK hD ?_; simp only [go_sem, reduceIte, Nat.reduceLT, Nat.reduceEqDiff, Nat.reduceAdd, Nat.reduceMul, Nat.reduceSub, Nat.reduceLeDiff, reduceCtorEq, hc, s1, s2, c1, c2, Try.results61])
    | (with_reducible refine aw_reg hK ?_; simp only [go_sem, reduceIte, Nat.reduceLT, Nat.reduceEqDiff, Nat.reduceAdd, Nat.reduceMul, Nat.reduceSub, Nat.reduceLeDiff, reduceCtorEq, hc, s1, s2, c1, c2, Try.results61])
    | (with_reducible refine aw_if ?_; simp only [go_sem, reduceIte, Nat.reduceLT, Nat.reduceEqDiff, Nat.reduceAdd, Nat.reduceMul, Nat.reduceSub, Nat.reduceLeDiff, reduceCtorEq, hc, s1, s2, c1, c2, Try.results61])
    | (with_reducible refine aw_block ?_)
    | (with_reducible refine aw_ret ?_; (try simp only [thenQ, blockQ]); refine aw_ret' ?_; simp only [go_sem, reduceIte, Nat.reduceLT, Nat.reduceEqDiff, Nat.reduceAdd, Nat.reduceMul, Nat.reduceSub, Nat.reduceLeDiff, reduceCtorEq, hc, s1, s2, c1, c2, Try.results61])
    | (with_reducible refine aw_exit ?_; simp only [thenQ, blockQ, reduceIte, Nat.reduceEqDiff])
    | (with_reducible refine aw_skip ?_; simp only [thenQ, blockQ])
    | (with_reducible refine gate_intro (fun h => ?_) (fun h => ?_) <;> simp only [h, go_sem, reduceIte, Nat.reduceLT, Nat.reduceEqDiff, Nat.reduceAdd, Nat.reduceMul, Nat.reduceSub, Nat.reduceLeDiff, reduceCtorEq, hc, s1, s2, c1, c2, Try.results61] <;> (try simp only [decide_eq_true_eq, decide_eq_false_iff_not, Bool.not_true] at h))
    | (with_reducible refine chk_in (by kernel_rfl) ?_)
    | (with_reducible refine And.intro (And.intro (by omega) (by omega)) ?_)
    | (with_reducible refine And.intro (by omega) ?_)
    | (rw [get_in]; rotate_left; omega; simp only [go_sem, reduceIte, Nat.reduceLT, Nat.reduceEqDiff, Nat.reduceAdd, Nat.reduceMul, Nat.reduceSub, Nat.reduceLeDiff, reduceCtorEq, hc, s1, s2, c1, c2, Try.results61])
    | fail)
    have : (List.range l.length).all (fun k => !badAt l c i k) = true := by
      simp only [List.all_eq_true, List.mem_range]
      intro j hj; simp [hf j (by omega)]
    simp [countsS, hv, this]
  | some s =>
    have hlt : k < l.length := by
      rcases Nat.lt_or_ge k l.length with h | h
      · exact h
      · rw [List.getElem?_eq_none h] at hy; cases hy
    have hc : decide ((k : Int) < (l.length : Int)) = true := by simp; omega
    obtain ⟨b1, b2, b3⟩ := s
    obtain ⟨ck, hck⟩ : ∃ x, c[k]? = some x := ⟨_, List.getElem?_eq_getElem (by omega)⟩
    have hb : badAt l c i k = (valS (b1, b2, b3) && (dispS (a1, a2, a3) (b1, b2, b3) ci ck || decide (k < i) && decide ((b1, b2, b3) = (a1, a2, a3)))) := by simp [badAt, stAt, inAt, hx, hy, hci, hck]
    have no : badAt l c i k = true → countsS l c i = false := fun h => by
      have : (List.range l.length).all (fun k => !badAt l c i k) = false := by
        rw [List.all_eq_false]; exact ⟨k, by simpa using hlt, by simp [h]⟩
      simp [countsS, this]
    have hw := wrS (i := k) (by omega)
    repeat' (first
    | (with_reducible refine aw_seq ?_)
    | (with_reducible refine kont_in ?_; simp only [go_sem, reduceIte, Nat.reduceLT, Nat.reduceEqDiff, Nat.reduceAdd, Nat.reduceMul, Nat.reduceSub, Nat.reduceLeDiff, reduceCtorEq, hc, hx, hy, hci, hck, stD, s1, s2, c1, c2, Try.results61])
    | (with_reducible refine dKont_in ?_; simp only [go_sem, reduceIte, Nat.reduceLT, Nat.reduceEqDiff, Nat.reduceAdd, Nat.reduceMul, Nat.reduceSub, Nat.reduceLeDiff, reduceCtorEq, hc, hx, hy, hci, hck, stD, s1, s2, c1, c2, Try.results61])
    | (with_reducible refine aw_drw (by kernel_rfl) hK hD ?_; simp only [go_sem, reduceIte, Nat.reduceLT, Nat.reduceEqDiff, Nat.reduceAdd, Nat.reduceMul, Nat.reduceSub, Nat.reduceLeDiff, reduceCtorEq, hc, hx, hy, hci, hck, stD, s1, s2, c1, c2, Try.results61])
    | (with_reducible refine aw_reg hK ?_; simp only [go_sem, reduceIte, Nat.reduceLT, Nat.reduceEqDiff, Nat.reduceAdd, Nat.reduceMul, Nat.reduceSub, Nat.reduceLeDiff, reduceCtorEq, hc, hx, hy, hci, hck, stD, s1, s2, c1, c2, Try.results61])
    | (with_reducible refine aw_if ?_; simp only [go_sem, reduceIte, Nat.reduceLT, Nat.reduceEqDiff, Nat.reduceAdd, Nat.reduceMul, Nat.reduceSub, Nat.reduceLeDiff, reduceCtorEq, hc, hx, hy, hci, hck, stD, s1, s2, c1, c2, Try.results61])
    | (with_reducible refine aw_block ?_)
    | (with_reducible refine aw_ret ?_; (try simp only [thenQ, blockQ]); refine aw_ret' ?_; simp only [go_sem, reduceIte, Nat.reduceLT, Nat.reduceEqDiff, Nat.reduceAdd, Nat.reduceMul, Nat.reduceSub, Nat.reduceLeDiff, reduceCtorEq, hc, hx, hy, hci, hck, stD, s1, s2, c1, c2, Try.results61])
    | (with_reducible refine aw_exit ?_; simp only [thenQ, blockQ, reduceIte, Nat.reduceEqDiff])
    | (with_reducible refine aw_skip ?_; simp only [thenQ, blockQ])
    | (with_reducible refine gate_intro (fun h => ?_) (fun h => ?_) <;> simp only [h, go_sem, reduceIte, Nat.reduceLT, Nat.reduceEqDiff, Nat.reduceAdd, Nat.reduceMul, Nat.reduceSub, Nat.reduceLeDiff, reduceCtorEq, hc, hx, hy, hci, hck, stD, s1, s2, c1, c2, Try.results61] <;> (try simp only [decide_eq_true_eq, decide_eq_false_iff_not, Bool.not_true] at h))
    | (with_reducible refine chk_in (by kernel_rfl) ?_)
    | (with_reducible refine And.intro (And.intro (by omega) (by omega)) ?_)
    | (with_reducible refine And.intro (by omega) ?_)
    | (refine valid_call rfl (b1, b2, b3) rfl rfl ?_)
    | (refine disputes_call rfl (a1, a2, a3) (b1, b2, b3) rfl rfl rfl ?_)
    | (rw [get_in]; rotate_left; omega; simp only [go_sem, reduceIte, Nat.reduceLT, Nat.reduceEqDiff, Nat.reduceAdd, Nat.reduceMul, Nat.reduceSub, Nat.reduceLeDiff, reduceCtorEq, hc, hx, hy, hci, hck, stD, s1, s2, c1, c2, Try.results61])
    | fail)
    all_goals first
      | (rw [no (by rw [hb]; simp_all; done)]; done)
      | (have hgo : badAt l c i k = false := by (rw [hb]; first | (simp_all; done) | (have hki : ¬ k < i := (by omega); simp only [hki, decide_false, Bool.false_and]; simp_all; done))
         refine ⟨k + 1, ⟨by omega, fun j hj => ?_⟩, by omega, weak_sub (by simp [envOf, hw])⟩
         by_cases hjk : j = k
         · subst hjk; exact hgo
         · exact hf j (by omega))
end Go.Proofs.R1

/- The tape's lists. -/
set_option linter.unusedVariables false
set_option linter.unusedSimpArgs false
set_option maxRecDepth 8000
set_option maxHeartbeats 4000000
namespace Go.Proofs.R1
open Go Go.Abs

def intL (l : List Int) : List (List D) := l.map fun x => [i64 x]
@[go_sem] theorem intL_len (l : List Int) : (intL l).length = l.length := by simp [intL]
@[go_sem] theorem intL_take (l : List Int) (n : Nat) : (intL l).take n = intL (l.take n) := by simp [intL, List.map_take]
@[go_sem] theorem intL_drop (l : List Int) (n : Nat) : (intL l).drop n = intL (l.drop n) := by simp [intL, List.map_drop]
@[go_sem] theorem intL_app (l r : List Int) : intL l ++ intL r = intL (l ++ r) := by simp [intL]
@[go_sem] theorem intL_app1 (l : List Int) (x : Int) : intL l ++ [[i64 x]] = intL (l ++ [x]) := by simp [intL]
theorem next_call {K : Kt} (hk : K 16 = some nextC) {np fid id : Nat} {M : Mem} {nx : D → Mem → Prop} (t : Tp) (n : Int) (hm : M id = some (.cells (tpD t))) (hp : tpOk t) (hn0 : n ≤ 9223372036854775807) (hf : M fid = none)
    (hn : ∀ v t', tpOk t' → (1 ≤ n → 0 ≤ v ∧ v < n) → (n < 1 → v = 0) → nx (i64 v) (upd M id (some (.cells (tpD t'))))) : semCall K np 16 [.box id 0, i64 n] M fid nx :=
  tp_call hk t n hm hp hn0 hf (hn _ _ (raw_ok hp) (fun h => ⟨cutI_lo _ _, cutI_hi _ h⟩) (fun h => by simp [cutI, h]))

theorem ins_mem {o : List Int} {k : Nat} {a x : Int} : x ∈ o.take k ++ [a] ++ (o.drop k).take (o.length - k) ↔ (x ∈ o ∨ x = a) := by
  rw [List.take_of_length_le (l := o.drop k) (by simp)]
  have e := List.take_append_drop k o
  have : x ∈ o ↔ x ∈ o.take k ∨ x ∈ o.drop k := by rw [← List.mem_append, e]
  rw [this]; simp only [List.mem_append, List.mem_singleton]
  constructor
  · rintro ((h | h) | h)
    · exact .inl (.inl h)
    · exact .inr h
    · exact .inl (.inr h)
  · rintro ((h | h) | h)
    · exact .inl (.inl h)
    · exact .inr h
    · exact .inl (.inr h)
def IsPerm (o : List Int) (n : Int) : Prop := ∀ x, x ∈ o ↔ 0 ≤ x ∧ x < n
abbrev orderTC : Con where
  α := Tp × Int
  kinds := [true, false]
  args := fun a => [.io (tpD a.1), .d (i64 a.2)]
  pre := fun a => tpOk a.1 ∧ 0 ≤ a.2 ∧ a.2 ≤ 1000000
  post := fun a r => ∃ (o : List Int) (t : Tp), tpOk t ∧ (o.length : Int) = a.2 ∧ IsPerm o a.2 ∧ r = ⟨[.own 1 (intL o)], [tpD t]⟩
  clean := false
theorem orderT_ok : CallOk Try.prog 57 orderTC := by
  refine ok_of_body_own 33 2 Try.func57 rfl (by decide) Try.ntmps57 (by intro a h; exact ⟨rfl, rfl⟩) (by decide) (by intro h; cases h) ?_
  rintro ⟨t, n⟩ ⟨h1, h2, h3⟩
  simp only [orderTC] at h1 h2 h3 ⊢
  simp only [initE, initMm, List.length_cons, List.length_nil, Nat.reduceAdd]
  have hK : KOk Try.prog (kOf [(16, nextC)]) := kOk_cons next_ok' kOk_nil
  repeat' (first
    | (with_reducible refine aw_seq ?_)
    | (with_reducible refine kont_in ?_; simp only [go_sem, reduceIte, Nat.reduceLT, Nat.reduceEqDiff, Nat.reduceAdd, Nat.reduceMul, Nat.reduceSub, Nat.reduceLeDiff, reduceCtorEq, tp_frz, tp_fz])
    | (with_reducible refine dKont_in ?_; simp only [go_sem, reduceIte, Nat.reduceLT, Nat.reduceEqDiff, Nat.reduceAdd, Nat.reduceMul, Nat.reduceSub, Nat.reduceLeDiff, reduceCtorEq, tp_frz, tp_fz])
    | (with_reducible refine aw_drw (by kernel_rfl) hK kDet_nil ?_; simp only [go_sem, reduceIte, Nat.reduceLT, Nat.reduceEqDiff, Nat.reduceAdd, Nat.reduceMul, Nat.reduceSub, Nat.reduceLeDiff, reduceCtorEq, tp_frz, tp_fz])
    | (with_reducible refine aw_reg hK ?_; simp only [go_sem, reduceIte, Nat.reduceLT, Nat.reduceEqDiff, Nat.reduceAdd, Nat.reduceMul, Nat.reduceSub, Nat.reduceLeDiff, reduceCtorEq, tp_frz, tp_fz])
    | (with_reducible refine aw_if ?_; simp only [go_sem, reduceIte, Nat.reduceLT, Nat.reduceEqDiff, Nat.reduceAdd, Nat.reduceMul, Nat.reduceSub, Nat.reduceLeDiff, reduceCtorEq, tp_frz, tp_fz])
    | (with_reducible refine aw_block ?_)
    | (with_reducible refine aw_ret ?_; (try simp only [thenQ, blockQ]); refine aw_ret' ?_; simp only [go_sem, reduceIte, Nat.reduceLT, Nat.reduceEqDiff, Nat.reduceAdd, Nat.reduceMul, Nat.reduceSub, Nat.reduceLeDiff, reduceCtorEq, tp_frz, tp_fz])
    | (with_reducible refine aw_exit ?_; simp only [thenQ, blockQ, reduceIte, Nat.reduceEqDiff])
    | (with_reducible refine aw_skip ?_; simp only [thenQ, blockQ])
    | (with_reducible refine gate_intro (fun h => ?_) (fun h => ?_) <;> simp only [h, go_sem, reduceIte, Nat.reduceLT, Nat.reduceEqDiff, Nat.reduceAdd, Nat.reduceMul, Nat.reduceSub, Nat.reduceLeDiff, reduceCtorEq, tp_frz, tp_fz] <;> (try simp only [decide_eq_true_eq, decide_eq_false_iff_not, Bool.not_true] at h))
    | (with_reducible refine chk_in (by kernel_rfl) ?_)
    | (with_reducible refine And.intro (And.intro (by omega) (by omega)) ?_)
    | (with_reducible refine And.intro (by omega) ?_)
    | (rw [get_in]; rotate_left; omega; simp only [go_sem, reduceIte, Nat.reduceLT, Nat.reduceEqDiff, Nat.reduceAdd, Nat.reduceMul, Nat.reduceSub, Nat.reduceLeDiff, reduceCtorEq, tp_frz, tp_fz])
    | fail)
  refine aw_nil 5 100 1 rfl rfl ?_
  refine aw_loop (α := Nat × List Int × Tp) (fun x => ⟨envOf [(0, .box 0 0), (1, i64 n), (5, .row 100), (6, i64 x.1)], memOf [(0, .cells (tpD x.2.2)), (100, .row 1 (intL x.2.1) true)], 200⟩)
    (fun x => tpOk x.2.2 ∧ (x.1 : Int) ≤ n ∧ x.2.1.length = x.1 ∧ IsPerm x.2.1 x.1) (fun x => n.toNat - x.1) (0, [], t) ⟨h1, by simpa using h2, rfl, by intro x; simp⟩ (weak_in [] (by repeat' (first | trivial | constructor | rfl)) (by repeat' (first | trivial | constructor | rfl)) (by rfl) (by rfl) (by rfl)) ?_
  rintro ⟨i, o, t⟩ ⟨ht, hi, hl, hpm⟩
  simp only at ht hi hl hpm ⊢
  by_cases hlt : (i : Int) < n
  case neg =>
    have hc : decide ((i : Int) < n) = false := by simp; omega
    repeat' (first
    | (with_reducible refine aw_seq ?_)
    | (with_reducible refine kont_in ?_; simp only [go_sem, reduceIte, Nat.reduceLT, Nat.reduceEqDiff, Nat.reduceAdd, Nat.reduceMul, Nat.reduceSub, Nat.reduceLeDiff, reduceCtorEq, hc, tp_frz, tp_fz])
    | (with_reducible refine dKont_in ?_; simp only [go_sem, reduceIte, Nat.reduceLT, Nat.reduceEqDiff, Nat.reduceAdd, Nat.reduceMul, Nat.reduceSub, Nat.reduceLeDiff, reduceCtorEq, hc, tp_frz, tp_fz])
    | (with_reducible refine aw_drw (by kernel_rfl) hK kDet_nil ?_; simp only [go_sem, reduceIte, Nat.reduceLT, Nat.reduceEqDiff, Nat.reduceAdd, Nat.reduceMul, Nat.reduceSub, Nat.reduceLeDiff, reduceCtorEq, hc, tp_frz, tp_fz])
    | (with_reducible refine aw_reg hK ?_; simp only [go_sem, reduceIte, Nat.reduceLT, Nat.reduceEqDiff, Nat.reduceAdd, Nat.reduceMul, Nat.reduceSub, Nat.reduceLeDiff, reduceCtorEq, hc, tp_frz, tp_fz])
    | (with_reducible refine aw_if ?_; simp only [go_sem, reduceIte, Nat.reduceLT, Nat.reduceEqDiff, Nat.reduceAdd, Nat.reduceMul, Nat.reduceSub, Nat.reduceLeDiff, reduceCtorEq, hc, tp_frz, tp_fz])
    | (with_reducible refine aw_block ?_)
    | (with_reducible refine aw_ret ?_; (try simp only [thenQ, blockQ]); refine aw_ret' ?_; simp only [go_sem, reduceIte, Nat.reduceLT, Nat.reduceEqDiff, Nat.reduceAdd, Nat.reduceMul, Nat.reduceSub, Nat.reduceLeDiff, reduceCtorEq, hc, tp_frz, tp_fz])
    | (with_reducible refine aw_exit ?_; simp only [thenQ, blockQ, reduceIte, Nat.reduceEqDiff])
    | (with_reducible refine aw_skip ?_; simp only [thenQ, blockQ])
    | (with_reducible refine gate_intro (fun h => ?_) (fun h => ?_) <;> simp only [h, go_sem, reduceIte, Nat.reduceLT, Nat.reduceEqDiff, Nat.reduceAdd, Nat.reduceMul, Nat.reduceSub, Nat.reduceLeDiff, reduceCtorEq, hc, tp_frz, tp_fz] <;> (try simp only [decide_eq_true_eq, decide_eq_false_iff_not, Bool.not_true] at h))
    | (with_reducible refine chk_in (by kernel_rfl) ?_)
    | (with_reducible refine And.intro (And.intro (by omega) (by omega)) ?_)
    | (with_reducible refine And.intro (by omega) ?_)
    | (rw [get_in]; rotate_left; omega; simp only [go_sem, reduceIte, Nat.reduceLT, Nat.reduceEqDiff, Nat.reduceAdd, Nat.reduceMul, Nat.reduceSub, Nat.reduceLeDiff, reduceCtorEq, hc, tp_frz, tp_fz])
    | fail)
    exact ⟨_, ⟨o, t, ht, by omega, by rw [show n = (i : Int) by omega]; exact hpm, rfl⟩, OwnLe.refl _, rfl⟩
  have hc : decide ((i : Int) < n) = true := by simp; omega
  have hw := wrS (i := i) (by omega)
  repeat' (first
    | (with_reducible refine aw_seq ?_)
    | (with_reducible refine kont_in ?_; simp only [go_sem, reduceIte, Nat.reduceLT, Nat.reduceEqDiff, Nat.reduceAdd, Nat.reduceMul, Nat.reduceSub, Nat.reduceLeDiff, reduceCtorEq, hc, hw, tp_frz, tp_fz])
    | (with_reducible refine dKont_in ?_; simp only [go_sem, reduceIte, Nat.reduceLT, Nat.reduceEqDiff, Nat.reduceAdd, Nat.reduceMul, Nat.reduceSub, Nat.reduceLeDiff, reduceCtorEq, hc, hw, tp_frz, tp_fz])
    | (with_reducible refine aw_drw (by kernel_rfl) hK kDet_nil ?_; simp only [go_sem, reduceIte, Nat.reduceLT, Nat.reduceEqDiff, Nat.reduceAdd, Nat.reduceMul, Nat.reduceSub, Nat.reduceLeDiff, reduceCtorEq, hc, hw, tp_frz, tp_fz])
    | (with_reducible refine aw_reg hK ?_; simp only [go_sem, reduceIte, Nat.reduceLT, Nat.reduceEqDiff, Nat.reduceAdd, Nat.reduceMul, Nat.reduceSub, Nat.reduceLeDiff, reduceCtorEq, hc, hw, tp_frz, tp_fz])
    | (with_reducible refine aw_if ?_; simp only [go_sem, reduceIte, Nat.reduceLT, Nat.reduceEqDiff, Nat.reduceAdd, Nat.reduceMul, Nat.reduceSub, Nat.reduceLeDiff, reduceCtorEq, hc, hw, tp_frz, tp_fz])
    | (with_reducible refine aw_block ?_)
    | (with_reducible refine aw_ret ?_; (try simp only [thenQ, blockQ]); refine aw_ret' ?_; simp only [go_sem, reduceIte, Nat.reduceLT, Nat.reduceEqDiff, Nat.reduceAdd, Nat.reduceMul, Nat.reduceSub, Nat.reduceLeDiff, reduceCtorEq, hc, hw, tp_frz, tp_fz])
    | (with_reducible refine aw_exit ?_; simp only [thenQ, blockQ, reduceIte, Nat.reduceEqDiff])
    | (with_reducible refine aw_skip ?_; simp only [thenQ, blockQ])
    | (with_reducible refine gate_intro (fun h => ?_) (fun h => ?_) <;> simp only [h, go_sem, reduceIte, Nat.reduceLT, Nat.reduceEqDiff, Nat.reduceAdd, Nat.reduceMul, Nat.reduceSub, Nat.reduceLeDiff, reduceCtorEq, hc, hw, tp_frz, tp_fz] <;> (try simp only [decide_eq_true_eq, decide_eq_false_iff_not, Bool.not_true] at h))
    | (with_reducible refine chk_in (by kernel_rfl) ?_)
    | (with_reducible refine And.intro (And.intro (by omega) (by omega)) ?_)
    | (with_reducible refine And.intro (by omega) ?_)
    | (refine next_call rfl _ _ rfl ht (by omega) rfl (fun v t' ht' hv _ => ?_))
    | (rw [get_in]; rotate_left; omega; simp only [go_sem, reduceIte, Nat.reduceLT, Nat.reduceEqDiff, Nat.reduceAdd, Nat.reduceMul, Nat.reduceSub, Nat.reduceLeDiff, reduceCtorEq, hc, hw, tp_frz, tp_fz])
    | fail)
  refine ⟨(i + 1, o.take v.toNat ++ [(i : Int)] ++ (o.drop v.toNat).take (o.length - v.toNat), t'), ⟨ht', by simp only; omega, by simp only [List.length_append, List.length_take, List.length_drop, List.length_singleton]; omega, ?_⟩, by simp only; omega, weak_in [(100, _)] (by repeat' (first | trivial | constructor | rfl)) (by repeat' (first | trivial | constructor | rfl)) (by rfl) (by rfl) (by rfl)⟩
  intro x
  have := hpm x
  simp only [ins_mem, this]
  push_cast
  omega
theorem orderT_call {K : Kt} (hk : K 57 = some orderTC) {np fid id : Nat} {M : Mem} {nx : D → Mem → Prop} (t : Tp) (n : Int) (hm : M id = some (.cells (tpD t))) (hp : tpOk t) (h0 : 0 ≤ n ∧ n ≤ 1000000) (hf : ∀ j, M (fid + j) = none)
    (hn : ∀ o t', tpOk t' → (o.length : Int) = n → IsPerm o n → nx (.row fid) (upd (upd M id (some (.cells (tpD t')))) fid (some (.row 1 (intL o) true)))) : semCall K np 57 [.box id 0, i64 n] M fid nx :=
  call_ioR hk rfl rfl (t, n) (by simp [nf, hm, tpD, slI, nf0]) rfl (by simp [orderTC, argsF, ioArg, hm, consAD, tpD, slI, mapO, fz, fz0]) ⟨hp, h0⟩ hf (by rintro r ⟨o, t', h1, h2, h3, rfl⟩; exact hn o t' h1 h2 h3)

abbrev mixedTC : Con where
  α := Tp × Int
  kinds := [true, false]
  args := fun a => [.io (tpD a.1), .d (i64 a.2)]
  pre := fun a => tpOk a.1 ∧ 0 ≤ a.2 ∧ a.2 ≤ 1000000
  post := fun a r => ∃ (o : List Int) (t : Tp), tpOk t ∧ (o.length : Int) ≤ a.2 + 3 ∧ IsPerm o a.2 ∧ r = ⟨[.own 1 (intL o)], [tpD t]⟩
  clean := false
theorem mixedT_ok : CallOk Try.prog 29 mixedTC := by
  refine ok_of_body_own 46 2 Try.func29 rfl (by decide) Try.ntmps29 (by intro a h; exact ⟨rfl, rfl⟩) (by decide) (by intro h; cases h) ?_
  rintro ⟨t, n⟩ ⟨h1, h2, h3⟩
  simp only [mixedTC] at h1 h2 h3 ⊢
  simp only [initE, initMm, List.length_cons, List.length_nil, Nat.reduceAdd]
  have hK : KOk Try.prog (kOf [(16, nextC), (57, orderTC)]) := kOk_cons next_ok' (kOk_cons orderT_ok kOk_nil)
  repeat' (first
    | (with_reducible refine aw_seq ?_)
    | (with_reducible refine kont_in ?_; simp only [go_sem, reduceIte, Nat.reduceLT, Nat.reduceEqDiff, Nat.reduceAdd, Nat.reduceMul, Nat.reduceSub, Nat.reduceLeDiff, reduceCtorEq, tp_frz, tp_fz])
    | (with_reducible refine dKont_in ?_; simp only [go_sem, reduceIte, Nat.reduceLT, Nat.reduceEqDiff, Nat.reduceAdd, Nat.reduceMul, Nat.reduceSub, Nat.reduceLeDiff, reduceCtorEq, tp_frz, tp_fz])
    | (with_reducible refine aw_drw (by kernel_rfl) hK kDet_nil ?_; simp only [go_sem, reduceIte, Nat.reduceLT, Nat.reduceEqDiff, Nat.reduceAdd, Nat.reduceMul, Nat.reduceSub, Nat.reduceLeDiff, reduceCtorEq, tp_frz, tp_fz])
    | (with_reducible refine aw_reg hK ?_; simp only [go_sem, reduceIte, Nat.reduceLT, Nat.reduceEqDiff, Nat.reduceAdd, Nat.reduceMul, Nat.reduceSub, Nat.reduceLeDiff, reduceCtorEq, tp_frz, tp_fz])
    | (with_reducible refine aw_if ?_; simp only [go_sem, reduceIte, Nat.reduceLT, Nat.reduceEqDiff, Nat.reduceAdd, Nat.reduceMul, Nat.reduceSub, Nat.reduceLeDiff, reduceCtorEq, tp_frz, tp_fz])
    | (with_reducible refine aw_block ?_)
    | (with_reducible refine aw_ret ?_; (try simp only [thenQ, blockQ]); refine aw_ret' ?_; simp only [go_sem, reduceIte, Nat.reduceLT, Nat.reduceEqDiff, Nat.reduceAdd, Nat.reduceMul, Nat.reduceSub, Nat.reduceLeDiff, reduceCtorEq, tp_frz, tp_fz])
    | (with_reducible refine aw_exit ?_; simp only [thenQ, blockQ, reduceIte, Nat.reduceEqDiff])
    | (with_reducible refine aw_skip ?_; simp only [thenQ, blockQ])
    | (with_reducible refine gate_intro (fun h => ?_) (fun h => ?_) <;> simp only [h, go_sem, reduceIte, Nat.reduceLT, Nat.reduceEqDiff, Nat.reduceAdd, Nat.reduceMul, Nat.reduceSub, Nat.reduceLeDiff, reduceCtorEq, tp_frz, tp_fz] <;> (try simp only [decide_eq_true_eq, decide_eq_false_iff_not, Bool.not_true] at h))
    | (with_reducible refine chk_in (by kernel_rfl) ?_)
    | (with_reducible refine And.intro (And.intro (by omega) (by omega)) ?_)
    | (with_reducible refine And.intro (by omega) ?_)
    | (refine orderT_call rfl _ _ rfl h1 (by omega) (memOf_free rfl) (fun o0 t0 ht0 hl0 hp0 => ?_))
    | (refine next_call rfl _ _ rfl ht0 (by omega) rfl (fun k0 t1 ht1 hk0 _ => ?_))
    | (rw [get_in]; rotate_left; omega; simp only [go_sem, reduceIte, Nat.reduceLT, Nat.reduceEqDiff, Nat.reduceAdd, Nat.reduceMul, Nat.reduceSub, Nat.reduceLeDiff, reduceCtorEq, tp_frz, tp_fz])
    | fail)
  obtain ⟨k0, rfl⟩ := Int.eq_ofNat_of_zero_le (hk0 (by omega)).1
  have hk3 := (hk0 (by omega)).2
  refine aw_loop (α := Nat × List Int × Tp) (fun x => ⟨envOf [(0, .box 0 0), (1, i64 n), (5, .row 100), (6, i64 x.1)], memOf [(0, .cells (tpD x.2.2)), (100, .row 1 (intL x.2.1) true)], 200⟩)
    (fun x => tpOk x.2.2 ∧ (x.1 : Int) ≤ 3 ∧ (x.2.1.length : Int) + x.1 ≤ n + 3 ∧ IsPerm x.2.1 n) (fun x => x.1) (k0, o0, t1) ⟨ht1, by simp only; omega, by simp only; omega, hp0⟩ (weak_in [(100, _)] (by repeat' (first | trivial | constructor | rfl)) (by repeat' (first | trivial | constructor | rfl)) (by rfl) (by rfl) (by rfl)) ?_
  rintro ⟨i, o, t⟩ ⟨ht, hi, hl, hpm⟩
  simp only at ht hi hl hpm ⊢
  cases i with
  | zero =>
    have hc : decide (((0 : Nat) : Int) > 0) = false := rfl
    repeat' (first
    | (with_reducible refine aw_seq ?_)
    | (with_reducible refine kont_in ?_; simp only [go_sem, reduceIte, Nat.reduceLT, Nat.reduceEqDiff, Nat.reduceAdd, Nat.reduceMul, Nat.reduceSub, Nat.reduceLeDiff, reduceCtorEq, hc, tp_frz, tp_fz])
    | (with_reducible refine dKont_in ?_; simp only [go_sem, reduceIte, Nat.reduceLT, Nat.reduceEqDiff, Nat.reduceAdd, Nat.reduceMul, Nat.reduceSub, Nat.reduceLeDiff, reduceCtorEq, hc, tp_frz, tp_fz])
    | (with_reducible refine aw_drw (by kernel_rfl) hK kDet_nil ?_; simp only [go_sem, reduceIte, Nat.reduceLT, Nat.reduceEqDiff, Nat.reduceAdd, Nat.reduceMul, Nat.reduceSub, Nat.reduceLeDiff, reduceCtorEq, hc, tp_frz, tp_fz])
    | (with_reducible refine aw_reg hK ?_; simp only [go_sem, reduceIte, Nat.reduceLT, Nat.reduceEqDiff, Nat.reduceAdd, Nat.reduceMul, Nat.reduceSub, Nat.reduceLeDiff, reduceCtorEq, hc, tp_frz, tp_fz])
    | (with_reducible refine aw_if ?_; simp only [go_sem, reduceIte, Nat.reduceLT, Nat.reduceEqDiff, Nat.reduceAdd, Nat.reduceMul, Nat.reduceSub, Nat.reduceLeDiff, reduceCtorEq, hc, tp_frz, tp_fz])
    | (with_reducible refine aw_block ?_)
    | (with_reducible refine aw_ret ?_; (try simp only [thenQ, blockQ]); refine aw_ret' ?_; simp only [go_sem, reduceIte, Nat.reduceLT, Nat.reduceEqDiff, Nat.reduceAdd, Nat.reduceMul, Nat.reduceSub, Nat.reduceLeDiff, reduceCtorEq, hc, tp_frz, tp_fz])
    | (with_reducible refine aw_exit ?_; simp only [thenQ, blockQ, reduceIte, Nat.reduceEqDiff])
    | (with_reducible refine aw_skip ?_; simp only [thenQ, blockQ])
    | (with_reducible refine gate_intro (fun h => ?_) (fun h => ?_) <;> simp only [h, go_sem, reduceIte, Nat.reduceLT, Nat.reduceEqDiff, Nat.reduceAdd, Nat.reduceMul, Nat.reduceSub, Nat.reduceLeDiff, reduceCtorEq, hc, tp_frz, tp_fz] <;> (try simp only [decide_eq_true_eq, decide_eq_false_iff_not, Bool.not_true] at h))
    | (with_reducible refine chk_in (by kernel_rfl) ?_)
    | (with_reducible refine And.intro (And.intro (by omega) (by omega)) ?_)
    | (with_reducible refine And.intro (by omega) ?_)
    | (rw [get_in]; rotate_left; omega; simp only [go_sem, reduceIte, Nat.reduceLT, Nat.reduceEqDiff, Nat.reduceAdd, Nat.reduceMul, Nat.reduceSub, Nat.reduceLeDiff, reduceCtorEq, hc, tp_frz, tp_fz])
    | fail)
    exact ⟨_, ⟨o, t, ht, by omega, hpm, rfl⟩, OwnLe.refl _, rfl⟩
  | succ i =>
    have hc : decide (((i + 1 : Nat) : Int) > 0) = true := by simp <;> omega
    have hw : IntKind.i64.wrap (((i + 1 : Nat) : Int) - 1) = (i : Int) := by rw [wr64 (by omega) (by omega)]; omega
    have hw1 := wr64 (n := (o.length : Int) + 1) (by omega) (by omega)
    repeat' (first
    | (with_reducible refine aw_seq ?_)
    | (with_reducible refine kont_in ?_; simp only [go_sem, reduceIte, Nat.reduceLT, Nat.reduceEqDiff, Nat.reduceAdd, Nat.reduceMul, Nat.reduceSub, Nat.reduceLeDiff, reduceCtorEq, hc, hw, hw1, tp_frz, tp_fz])
    | (with_reducible refine dKont_in ?_; simp only [go_sem, reduceIte, Nat.reduceLT, Nat.reduceEqDiff, Nat.reduceAdd, Nat.reduceMul, Nat.reduceSub, Nat.reduceLeDiff, reduceCtorEq, hc, hw, hw1, tp_frz, tp_fz])
    | (with_reducible refine aw_drw (by kernel_rfl) hK kDet_nil ?_; simp only [go_sem, reduceIte, Nat.reduceLT, Nat.reduceEqDiff, Nat.reduceAdd, Nat.reduceMul, Nat.reduceSub, Nat.reduceLeDiff, reduceCtorEq, hc, hw, hw1, tp_frz, tp_fz])
    | (with_reducible refine aw_reg hK ?_; simp only [go_sem, reduceIte, Nat.reduceLT, Nat.reduceEqDiff, Nat.reduceAdd, Nat.reduceMul, Nat.reduceSub, Nat.reduceLeDiff, reduceCtorEq, hc, hw, hw1, tp_frz, tp_fz])
    | (with_reducible refine aw_if ?_; simp only [go_sem, reduceIte, Nat.reduceLT, Nat.reduceEqDiff, Nat.reduceAdd, Nat.reduceMul, Nat.reduceSub, Nat.reduceLeDiff, reduceCtorEq, hc, hw, hw1, tp_frz, tp_fz])
    | (with_reducible refine aw_block ?_)
    | (with_reducible refine aw_ret ?_; (try simp only [thenQ, blockQ]); refine aw_ret' ?_; simp only [go_sem, reduceIte, Nat.reduceLT, Nat.reduceEqDiff, Nat.reduceAdd, Nat.reduceMul, Nat.reduceSub, Nat.reduceLeDiff, reduceCtorEq, hc, hw, hw1, tp_frz, tp_fz])
    | (with_reducible refine aw_exit ?_; simp only [thenQ, blockQ, reduceIte, Nat.reduceEqDiff])
    | (with_reducible refine aw_skip ?_; simp only [thenQ, blockQ])
    | (with_reducible refine gate_intro (fun h => ?_) (fun h => ?_) <;> simp only [h, go_sem, reduceIte, Nat.reduceLT, Nat.reduceEqDiff, Nat.reduceAdd, Nat.reduceMul, Nat.reduceSub, Nat.reduceLeDiff, reduceCtorEq, hc, hw, hw1, tp_frz, tp_fz] <;> (try simp only [decide_eq_true_eq, decide_eq_false_iff_not, Bool.not_true] at h))
    | (with_reducible refine chk_in (by kernel_rfl) ?_)
    | (with_reducible refine And.intro (And.intro (by omega) (by omega)) ?_)
    | (with_reducible refine And.intro (by omega) ?_)
    | (refine next_call rfl _ ((o.length : Int) + 1) rfl ht (by omega) rfl (fun k t' ht' hk _ => ?_))
    | (refine next_call rfl _ n rfl ht' (by omega) rfl (fun v t' ht' hv _ => ?_))
    | (rw [get_in]; rotate_left; omega; simp only [go_sem, reduceIte, Nat.reduceLT, Nat.reduceEqDiff, Nat.reduceAdd, Nat.reduceMul, Nat.reduceSub, Nat.reduceLeDiff, reduceCtorEq, hc, hw, hw1, tp_frz, tp_fz])
    | fail)
    · refine ⟨(i, o.take k.toNat ++ [v] ++ (o.drop k.toNat).take (o.length - k.toNat), t'), ⟨ht', by simp only; omega, by simp only [List.length_append, List.length_take, List.length_drop, List.length_singleton]; omega, ?_⟩, by simp only; omega, weak_in [(100, _)] (by repeat' (first | trivial | constructor | rfl)) (by repeat' (first | trivial | constructor | rfl)) (by rfl) (by rfl) (by rfl)⟩
      intro x
      have := hpm x
      simp only [ins_mem, this]
      have := hv (by omega)
      omega
    · exact ⟨_, ⟨o, t, ht, by omega, hpm, rfl⟩, OwnLe.refl _, rfl⟩
theorem mixedT_call {K : Kt} (hk : K 29 = some mixedTC) {np fid id : Nat} {M : Mem} {nx : D → Mem → Prop} (t : Tp) (n : Int) (hm : M id = some (.cells (tpD t))) (hp : tpOk t) (h0 : 0 ≤ n ∧ n ≤ 1000000) (hf : ∀ j, M (fid + j) = none)
    (hn : ∀ o t', tpOk t' → (o.length : Int) ≤ n + 3 → IsPerm o n → nx (.row fid) (upd (upd M id (some (.cells (tpD t')))) fid (some (.row 1 (intL o) true)))) : semCall K np 29 [.box id 0, i64 n] M fid nx :=
  call_ioR hk rfl rfl (t, n) (by simp [nf, hm, tpD, slI, nf0]) rfl (by simp [mixedTC, argsF, ioArg, hm, consAD, tpD, slI, mapO, fz, fz0]) ⟨hp, h0⟩ hf (by rintro r ⟨o, t', h1, h2, h3, rfl⟩; exact hn o t' h1 h2 h3)
end Go.Proofs.R1

/- Stamps with classes. -/
set_option linter.unusedVariables false
set_option linter.unusedSimpArgs false
set_option maxRecDepth 8000
set_option maxHeartbeats 4000000
namespace Go.Proofs.R1
open Go Go.Abs

def stR (l : List St) : List (List D) := l.map stD
@[go_sem] theorem stR_len (l : List St) : (stR l).length = l.length := by simp [stR]
@[go_sem] theorem stR_take (l : List St) (n : Nat) : (stR l).take n = stR (l.take n) := by simp [stR, List.map_take]
@[go_sem] theorem stR_drop (l : List St) (n : Nat) : (stR l).drop n = stR (l.drop n) := by simp [stR, List.map_drop]
@[go_sem] theorem stR_app (l r : List St) : stR l ++ stR r = stR (l ++ r) := by simp [stR]
@[go_sem] theorem stR_app1 (l : List St) (x : St) : stR l ++ [stD x] = stR (l ++ [x]) := by simp [stR]
@[go_sem] theorem stR_get (l : List St) (n : Nat) : (stR l)[n]? = (l[n]?).map stD := by simp [stR]
@[go_sem] theorem intL_get (l : List Int) (n : Nat) : (intL l)[n]? = (l[n]?).map fun x => [i64 x] := by simp [intL]
@[go_sem] theorem stD_len (s : St) : (stD s).length = 3 := rfl
@[go_sem] theorem stD_all (s : St) : (stD s).all isCell = true := rfl
@[go_sem] theorem stD_drop (s : St) : (stD s).drop 3 = [] := rfl
@[go_sem] theorem stD_frz (np : Nat) (M : Mem) (s : St) : frzL np M (stD s) = M := rfl
@[go_sem] theorem stD_fz (M : Mem) (b : Bool) (s : St) : mapO (fz M b 1) (stD s) = some (stD s) := rfl
@[go_sem] theorem stD_take (s : St) : (stD s).take 3 = stD s := rfl

theorem stampT_call {K : Kt} (hk : K 37 = some stampC) {np fid id : Nat} {M : Mem} {nx : D → Mem → Prop} (t : Tp) (n : Int) (hm : M id = some (.cells (tpD t))) (hp : tpOk t) (h0 : 0 ≤ n ∧ n ≤ 1000000) (hf : ∀ j, M (fid + j) = none)
    (hn : ∀ s t', tpOk t' → nx (.agg (stD s)) (upd M id (some (.cells (tpD t'))))) : semCall K np 37 [.box id 0, i64 n] M fid nx :=
  call_ioR hk rfl rfl (t, n) (by simp [nf, hm, tpD, slI, nf0]) rfl (by simp [stampC, argsF, ioArg, hm, consAD, tpD, slI, mapO, fz, fz0]) ⟨hp, h0⟩ hf (by rintro r ⟨s, t', h1, rfl⟩; exact hn s t' h1)

abbrev eventsC : Con where
  α := Tp × Int × Int
  kinds := [true, false, false]
  args := fun a => [.io (tpD a.1), .d (i64 a.2.1), .d (i64 a.2.2)]
  pre := fun a => tpOk a.1 ∧ (0 ≤ a.2.1 ∧ a.2.1 ≤ 1000) ∧ 0 ≤ a.2.2 ∧ a.2.2 ≤ 1000000
  post := fun a r => ∃ (l : List St) (c : List Int) (t : Tp), tpOk t ∧ c.length = l.length ∧ (l.length : Int) ≤ a.2.1 ∧ r = ⟨[.own 3 (stR l), .own 1 (intL c)], [tpD t]⟩
  clean := false
theorem rngI_in {t : Tp} {a b : Int} (h : a ≤ b) : a ≤ rngI t a b ∧ rngI t a b ≤ b := by
  have := cutI_lo (raw t).1 (b - a + 1)
  have := cutI_hi (raw t).1 (n := b - a + 1) (by omega)
  unfold rngI; omega
theorem rng_call {K : Kt} (hk : K 25 = some rangeC) {np fid id : Nat} {M : Mem} {nx : D → Mem → Prop} (t : Tp) (a b : Int) (hm : M id = some (.cells (tpD t))) (hp : tpOk t) (ha : -1000000 ≤ a ∧ a ≤ b ∧ b ≤ 1000000) (hf : M fid = none)
    (hn : ∀ v t', tpOk t' → a ≤ v → v ≤ b → nx (i64 v) (upd M id (some (.cells (tpD t'))))) : semCall K np 25 [.box id 0, i64 a, i64 b] M fid nx :=
  range_call hk t a b hm hp (by omega) hf (hn _ _ (raw_ok hp) (rngI_in ha.2.1).1 (rngI_in ha.2.1).2)
theorem oneb_call {K : Kt} (hk : K 21 = some oneC) {np fid id : Nat} {M : Mem} {nx : D → Mem → Prop} (t : Tp) (n : Int) (hm : M id = some (.cells (tpD t))) (hp : tpOk t) (hn0 : 0 ≤ n ∧ n ≤ 9223372036854775807) (hf : M fid = none)
    (hn : ∀ b t', tpOk t' → nx (bl b) (upd M id (some (.cells (tpD t'))))) : semCall K np 21 [.box id 0, i64 n] M fid nx :=
  one_call hk t n hm hp hn0.1 hn0.2 hf (hn _ _ (raw_ok hp))

end Go.Proofs.R1

/- The abstract machine: a sort as a list sees it. -/
set_option linter.unusedVariables false
set_option linter.unusedSimpArgs false
namespace Go.Abs
open Go

/-- A sort of a row of the caller's own. -/
theorem sort_call {α : Type} {K : Kt} {f g : FuncId} {k np fid id : Nat} {ag : Bool} {caps : List D} {M : Mem} {nx : D → Mem → Prop} {c : Con} (enc : α → List D) (dec : List D → α) (hdec : ∀ a, dec (enc a) = a) (L : List α) (cmp : α → α → Int)
    (hf : K f = some (srtC k ag)) (hM : M id = some (.row k (L.map enc) true)) (hg : K g = some c) (hcl : c.clean = true) (hcs : c.srt = none) (hk : 0 < k) (hlen : L.length < 4611686018427387904)
    (hir : ∀ x, x ∈ L → ¬ cmp x x < 0) (htr : ∀ x y z, x ∈ L → y ∈ L → z ∈ L → cmp x y < 0 → cmp y z < 0 → cmp x z < 0) (hnt : ∀ x y z, x ∈ L → y ∈ L → z ∈ L → ¬ cmp x y < 0 → ¬ cmp y z < 0 → ¬ cmp x z < 0)
    (hc : ∀ x y, x ∈ L → y ∈ L → ∃ a, argsV (upd M id none) (valE ag (enc x) :: valE ag (enc y) :: caps) = some (c.args a) ∧ c.pre a ∧ ∀ r, c.post a r → r = ⟨[.d (.v (.int .i64 (cmp x y)))], []⟩)
    (hn : ∀ L' : List α, L'.Perm L → L'.Pairwise (fun a b => ¬ cmp b a < 0) → nx (.tup []) (upd M id (some (.row k (L'.map enc) true)))) : semCall K np f [.row id, .fn g [] caps] M fid nx := by
  have hmem : ∀ e, e ∈ L.map enc → dec e ∈ L ∧ enc (dec e) = e := by
    intro e he
    obtain ⟨a, ha, rfl⟩ := List.mem_map.1 he
    rw [hdec]; exact ⟨ha, rfl⟩
  unfold semCall
  rw [hf]
  simp only [srtC]
  unfold semSort
  simp only [hM, hg]
  refine ⟨trivial, hk, hcl, hcs, by simpa using hlen, fun a b => cmp (dec a) (dec b), ⟨fun x hx => hir _ (hmem x hx).1, fun x y z hx hy hz => htr _ _ _ (hmem x hx).1 (hmem y hy).1 (hmem z hz).1, fun x y z hx hy hz => hnt _ _ _ (hmem x hx).1 (hmem y hy).1 (hmem z hz).1⟩, fun e1 e2 h1 h2 => ?_, fun es' hp hs => ?_⟩
  · obtain ⟨a, ha, hp, hr⟩ := hc (dec e1) (dec e2) (hmem e1 h1).1 (hmem e2 h2).1
    rw [(hmem e1 h1).2, (hmem e2 h2).2] at ha
    exact ⟨a, ha, hp, hr⟩
  · have e : (es'.map dec).map enc = es' := by
      rw [List.map_map]
      conv => rhs; rw [← List.map_id es']
      apply List.map_congr_left
      intro a ha
      exact (hmem a (hp.mem_iff.1 ha)).2
    have := hn (es'.map dec) (by
      have := hp.map dec
      rw [List.map_map] at this
      have e2 : L.map (dec ∘ enc) = L := by
        conv => rhs; rw [← List.map_id L]
        apply List.map_congr_left
        intro a _; exact hdec a
      rwa [e2] at this) (by rw [List.pairwise_map]; exact hs)
    rw [e] at this
    exact this

/-- Lists that ascend strictly and have the same members are one. -/
theorem asc_unique {α : Type} {lt : α → α → Prop} (irr : ∀ a, ¬ lt a a) (tr : ∀ a b c, lt a b → lt b c → lt a c) : ∀ (l r : List α), l.Pairwise lt → r.Pairwise lt → (∀ x, x ∈ l ↔ x ∈ r) → l = r
  | [], [], _, _, _ => rfl
  | [], b :: r, _, _, h => by have := (h b).2 (by simp); cases this
  | a :: l, [], _, _, h => by have := (h a).1 (by simp); cases this
  | a :: l, b :: r, hl, hr, h => by
    simp only [List.pairwise_cons] at hl hr
    have hab : a = b := by
      have h1 := (h a).1 (by simp)
      have h2 := (h b).2 (by simp)
      rcases List.mem_cons.1 h1 with h1 | h1
      · exact h1
      · rcases List.mem_cons.1 h2 with h2 | h2
        · exact h2.symm
        · exact absurd (tr _ _ _ (hl.1 b h2) (hr.1 a h1)) (irr a)
    subst hab
    congr 1
    refine asc_unique irr tr l r hl.2 hr.2 fun x => ?_
    constructor
    · intro hx
      rcases List.mem_cons.1 ((h x).1 (List.mem_cons_of_mem _ hx)) with rfl | h'
      · exact absurd (hl.1 x hx) (irr x)
      · exact h'
    · intro hx
      rcases List.mem_cons.1 ((h x).2 (List.mem_cons_of_mem _ hx)) with rfl | h'
      · exact absurd (hr.1 x hx) (irr x)
      · exact h'

/-! ## Maps as lists see them -/
def lookK {κ β : Type} [DecidableEq κ] : List (κ × β) → κ → Option β
  | [], _ => none
  | (a, b) :: l, k => if a = k then some b else lookK l k
def putK {κ β : Type} [DecidableEq κ] : List (κ × β) → κ → β → List (κ × β)
  | [], k, v => [(k, v)]
  | (a, b) :: l, k, v => if a = k then (k, v) :: l else (a, b) :: putK l k v

theorem lookK_some {κ β : Type} [DecidableEq κ] {l : List (κ × β)} {k : κ} {v : β} (h : lookK l k = some v) : (k, v) ∈ l := by
  induction l with
  | nil => cases h
  | cons p l ih =>
    obtain ⟨a, b⟩ := p
    simp only [lookK] at h
    split at h
    · rename_i he; cases h; subst he; simp
    · exact List.mem_cons_of_mem _ (ih h)
theorem lookK_none {κ β : Type} [DecidableEq κ] {l : List (κ × β)} {k : κ} (h : lookK l k = none) : ∀ v, (k, v) ∉ l := by
  induction l with
  | nil => intro v hv; cases hv
  | cons p l ih =>
    obtain ⟨a, b⟩ := p
    simp only [lookK] at h
    split at h
    · cases h
    · rename_i he
      intro v hv
      rcases List.mem_cons.1 hv with hv | hv
      · cases hv; exact he rfl
      · exact ih h v hv
theorem lookK_mem {κ β : Type} [DecidableEq κ] {l : List (κ × β)} {k : κ} {v : β} (hn : (l.map Prod.fst).Nodup) (h : (k, v) ∈ l) : lookK l k = some v := by
  cases hh : lookK l k with
  | none => exact absurd h (lookK_none hh v)
  | some w =>
    have := lookK_some hh
    clear hh
    induction l with
    | nil => cases h
    | cons p l ih =>
      simp only [List.map_cons, List.nodup_cons] at hn
      rcases List.mem_cons.1 h with h1 | h1 <;> rcases List.mem_cons.1 this with h2 | h2
      · rw [← h1] at h2; cases h2; rfl
      · exact absurd (List.mem_map.2 ⟨_, h2, by rw [← h1]⟩) hn.1
      · exact absurd (List.mem_map.2 ⟨_, h1, by rw [← h2]⟩) hn.1
      · exact ih hn.2 h1 h2
theorem putK_keys {κ β : Type} [DecidableEq κ] {l : List (κ × β)} {k : κ} {v : β} : ∀ a, a ∈ (putK l k v).map Prod.fst ↔ a ∈ l.map Prod.fst ∨ a = k := by
  induction l with
  | nil => intro a; simp [putK]
  | cons p l ih =>
    obtain ⟨x, y⟩ := p
    intro a
    simp only [putK]
    split
    · rename_i he; subst he
      simp only [List.map_cons, List.mem_cons]
      constructor
      · rintro (h | h)
        · exact .inr h
        · exact .inl (.inr h)
      · rintro ((h | h) | h)
        · exact .inl h
        · exact .inr h
        · exact .inl h
    · simp only [List.map_cons, List.mem_cons, ih a]
      constructor
      · rintro (h | h | h)
        · exact .inl (.inl h)
        · exact .inl (.inr h)
        · exact .inr h
      · rintro ((h | h) | h)
        · exact .inl h
        · exact .inr (.inl h)
        · exact .inr (.inr h)
theorem putK_nodup {κ β : Type} [DecidableEq κ] {l : List (κ × β)} {k : κ} {v : β} (h : (l.map Prod.fst).Nodup) : ((putK l k v).map Prod.fst).Nodup := by
  induction l with
  | nil => simp [putK]
  | cons p l ih =>
    obtain ⟨x, y⟩ := p
    simp only [List.map_cons, List.nodup_cons] at h
    simp only [putK]
    split
    · rename_i he; subst he
      simp only [List.map_cons, List.nodup_cons]; exact h
    · rename_i he
      simp only [List.map_cons, List.nodup_cons]
      refine ⟨fun hm => ?_, ih h.2⟩
      rcases (putK_keys x).1 hm with h' | h'
      · exact h.1 h'
      · exact he h'
theorem putK_mem {κ β : Type} [DecidableEq κ] {l : List (κ × β)} {k : κ} {v : β} (h : (l.map Prod.fst).Nodup) : ∀ p, p ∈ putK l k v ↔ p = (k, v) ∨ (p ∈ l ∧ p.1 ≠ k) := by
  induction l with
  | nil => intro p; simp [putK]
  | cons q l ih =>
    obtain ⟨x, y⟩ := q
    simp only [List.map_cons, List.nodup_cons] at h
    intro p
    simp only [putK]
    split
    · rename_i he; subst he
      simp only [List.mem_cons]
      constructor
      · rintro (h1 | h1)
        · exact .inl h1
        · exact .inr ⟨.inr h1, fun hx => h.1 (List.mem_map.2 ⟨p, h1, hx⟩)⟩
      · rintro (h1 | ⟨h1 | h1, h2⟩)
        · exact .inl h1
        · subst h1; exact absurd rfl h2
        · exact .inr h1
    · rename_i he
      simp only [List.mem_cons, ih h.2 p]
      constructor
      · rintro (h1 | h1 | h1)
        · subst h1; exact .inr ⟨.inl rfl, he⟩
        · exact .inl h1
        · exact .inr ⟨.inr h1.1, h1.2⟩
      · rintro (h1 | ⟨h1 | h1, h2⟩)
        · exact .inr (.inl h1)
        · exact .inl h1
        · exact .inr (.inr ⟨h1, h2⟩)

def mapE {κ β : Type} (ke : κ → List D) (ve : β → D) (l : List (κ × β)) : List (D × D) := l.map fun p => (.agg (ke p.1), ve p.2)
theorem findK_mapE {κ β : Type} [DecidableEq κ] {ke : κ → List D} {ve : β → D} (he : ∀ a b, eqCells (ke a) (ke b) = some (decide (a = b))) (k : κ) : ∀ (l : List (κ × β)) (i : Nat),
    ∃ j, findK (mapE ke ve l) (.agg (ke k)) i = some ((lookK l k).map fun b => (j, ve b)) ∧ ∀ v, (lookK l k).isSome = true → i ≤ j ∧ (mapE ke ve l).set (j - i) (.agg (ke k), ve v) = mapE ke ve (putK l k v)
  | [], i => ⟨0, rfl, fun v h => by simp [lookK] at h⟩
  | (a, b) :: l, i => by
    have e : mapE ke ve ((a, b) :: l) = (.agg (ke a), ve b) :: mapE ke ve l := rfl
    rw [e]
    simp only [findK, he, lookK]
    by_cases h : a = k
    · subst h
      refine ⟨i, by simp, fun v _ => ⟨Nat.le_refl _, by simp [putK, mapE]⟩⟩
    · obtain ⟨j, h1, h2⟩ := findK_mapE he k l (i + 1)
      refine ⟨j, by simpa [h, Ne.symm h] using h1, fun v hs => ?_⟩
      rw [if_neg h] at hs
      obtain ⟨h3, h4⟩ := h2 v hs
      refine ⟨by omega, ?_⟩
      have ej : j - i = (j - (i + 1)) + 1 := by omega
      rw [ej, List.set_cons_succ, h4]
      simp [putK, h, mapE]
theorem setK_mapE {κ β : Type} [DecidableEq κ] {ke : κ → List D} {ve : β → D} (he : ∀ a b, eqCells (ke a) (ke b) = some (decide (a = b))) (k : κ) (l : List (κ × β)) (v : β) : setK (mapE ke ve l) (.agg (ke k)) (ve v) = some (mapE ke ve (putK l k v)) := by
  obtain ⟨j, h1, h2⟩ := findK_mapE (ve := ve) he k l 0
  unfold setK
  rw [h1]
  cases hh : lookK l k with
  | some b =>
    have := (h2 v (by rw [hh]; rfl)).2
    simp only [Option.map_some]
    simpa using this
  | none =>
    simp only [Option.map_none, Option.some.injEq]
    have : ∀ l : List (κ × β), lookK l k = none → mapE ke ve l ++ [(.agg (ke k), ve v)] = mapE ke ve (putK l k v) := by
      intro l
      induction l with
      | nil => intro _; rfl
      | cons p l ih =>
        obtain ⟨a, b⟩ := p
        intro h
        simp only [lookK] at h
        split at h
        · cases h
        · rename_i hne
          have := ih h
          simp only [mapE, List.map_cons, List.cons_append, putK, hne, if_false] at this ⊢
          rw [this]
    exact this l hh

def posK {κ β : Type} [DecidableEq κ] : List (κ × β) → κ → Nat → Nat
  | [], _, _ => 0
  | (a, _) :: l, k, i => if a = k then i else posK l k (i + 1)
/-- A look-up, as the walk's simp takes it. -/
theorem findK_look {κ β : Type} [DecidableEq κ] {ke : κ → List D} {ve : β → D} (he : ∀ a b, eqCells (ke a) (ke b) = some (decide (a = b))) (k : κ) : ∀ (l : List (κ × β)) (i : Nat),
    findK (mapE ke ve l) (.agg (ke k)) i = some ((lookK l k).map fun b => (posK l k i, ve b))
  | [], i => rfl
  | (a, b) :: l, i => by
    have e : mapE ke ve ((a, b) :: l) = (.agg (ke a), ve b) :: mapE ke ve l := rfl
    rw [e]
    simp only [findK, he, lookK, posK]
    by_cases h : a = k
    · subst h; simp
    · simpa [h, Ne.symm h] using findK_look he k l (i + 1)

end Go.Abs

/- Canonical lists, in plain words. -/
set_option linter.unusedVariables false
set_option linter.unusedSimpArgs false
namespace Go.Proofs.R1
open Go Go.Abs

theorem ordI_lt {a b : Int} : ordI a b < 0 ↔ a < b := by unfold ordI; (repeat' split) <;> omega
theorem ordI_gt {a b : Int} : 0 < ordI a b ↔ b < a := by unfold ordI; (repeat' split) <;> omega
theorem ordI_eq {a b : Int} : ordI a b = 0 ↔ a = b := by unfold ordI; (repeat' split) <;> omega
theorem cmpS_lt {s t : St} : cmpS s t < 0 ↔ s.1 < t.1 ∨ s.1 = t.1 ∧ (s.2.1 < t.2.1 ∨ s.2.1 = t.2.1 ∧ s.2.2 < t.2.2) := by
  unfold cmpS
  have a1 := @ordI_lt s.1 t.1; have a2 := @ordI_eq s.1 t.1; have b1 := @ordI_lt s.2.1 t.2.1; have b2 := @ordI_eq s.2.1 t.2.1; have c1 := @ordI_lt s.2.2 t.2.2
  split
  · omega
  · split <;> omega
theorem cmpS_gt {s t : St} : 0 < cmpS s t ↔ cmpS t s < 0 := by
  rw [cmpS_lt]
  unfold cmpS
  have a1 := @ordI_gt s.1 t.1; have a2 := @ordI_eq s.1 t.1; have b1 := @ordI_gt s.2.1 t.2.1; have b2 := @ordI_eq s.2.1 t.2.1; have c1 := @ordI_gt s.2.2 t.2.2
  split
  · omega
  · split <;> omega
theorem cmpS_eq {s t : St} : cmpS s t = 0 ↔ s = t := by
  have h1 := @cmpS_lt s t; have h2 := @cmpS_gt s t; have h3 := @cmpS_lt t s
  obtain ⟨a, b, c⟩ := s; obtain ⟨d, e, f⟩ := t
  simp only [Prod.mk.injEq] at *
  omega
theorem cmpS_trans {s t u : St} (h : cmpS s t < 0) (k : cmpS t u < 0) : cmpS s u < 0 := by
  rw [cmpS_lt] at *; omega
theorem cmpS_irr (s : St) : ¬ cmpS s s < 0 := by rw [cmpS_lt]; omega
theorem cmpS_ntrans {s t u : St} (h : ¬ cmpS s t < 0) (k : ¬ cmpS t u < 0) : ¬ cmpS s u < 0 := by
  rw [cmpS_lt] at *; omega

/-- What Canonical names. -/
def IsCanon (l : List St) (c : List Int) (out : List Nat) : Prop := out.Pairwise (fun i j => cmpS (stAt l i) (stAt l j) < 0) ∧ ∀ i, i ∈ out ↔ i < l.length ∧ countsS l c i = true
theorem counts_apart {l : List St} {c : List Int} {i j : Nat} (hi : i < l.length) (hj : j < l.length) (h1 : countsS l c i = true) (h2 : countsS l c j = true) (h : stAt l i = stAt l j) : i = j := by
  have key : ∀ {i j : Nat}, i < l.length → countsS l c i = true → countsS l c j = true → stAt l i = stAt l j → ¬ i < j := by
    intro i j hi h1 h2 h hlt
    simp only [countsS, Bool.and_eq_true, List.all_eq_true, List.mem_range] at h1 h2
    have := h2.2 i hi
    simp only [badAt, h1.1, Bool.true_and, Bool.not_eq_true', Bool.or_eq_false_iff, Bool.and_eq_false_iff, decide_eq_false_iff_not] at this
    rcases this.2 with h' | h'
    · exact h' hlt
    · exact h' h
  have := key hi h1 h2 h
  have := key hj h2 h1 h.symm
  omega
/-- .. as a list. -/
def canF (l : List St) (c : List Int) : List Nat := ((List.range l.length).filter fun i => countsS l c i).mergeSort fun i j => decide (¬ 0 < cmpS (stAt l i) (stAt l j))
theorem canF_is (l : List St) (c : List Int) : IsCanon l c (canF l c) := by
  have hp := List.mergeSort_perm ((List.range l.length).filter fun i => countsS l c i) fun i j => decide (¬ 0 < cmpS (stAt l i) (stAt l j))
  have hm : ∀ i, i ∈ canF l c ↔ i < l.length ∧ countsS l c i = true := fun i => by
    unfold canF; rw [hp.mem_iff]; simp
  have hnd : (canF l c).Nodup := hp.nodup_iff.2 (List.nodup_range.filter _)
  refine ⟨?_, hm⟩
  have hs := List.pairwise_mergeSort (le := fun i j => decide (¬ 0 < cmpS (stAt l i) (stAt l j))) (fun a b c h1 h2 => by
    simp only [decide_eq_true_eq, cmpS_gt] at *
    exact cmpS_ntrans h2 h1) (fun a b => by
    simp only [Bool.or_eq_true, decide_eq_true_eq, cmpS_gt]
    rw [cmpS_lt, cmpS_lt]; omega) ((List.range l.length).filter fun i => countsS l c i)
  have hs' := (List.Pairwise.and hs hnd)
  refine List.Pairwise.imp_of_mem ?_ hs'
  intro i j hi hj ⟨h1, h2⟩
  simp only [decide_eq_true_eq] at h1
  have h0 : cmpS (stAt l i) (stAt l j) ≠ 0 := fun h => h2 (counts_apart ((hm i).1 hi).1 ((hm j).1 hj).1 ((hm i).1 hi).2 ((hm j).1 hj).2 (cmpS_eq.1 h))
  omega
theorem canon_unique {l : List St} {c : List Int} {a b : List Nat} (ha : IsCanon l c a) (hb : IsCanon l c b) : a = b :=
  asc_unique (lt := fun i j => cmpS (stAt l i) (stAt l j) < 0) (fun a => cmpS_irr _) (fun a b c h k => cmpS_trans h k) a b ha.1 hb.1 fun x => by rw [ha.2, hb.2]
theorem canF_of {l : List St} {c : List Int} {a : List Nat} (ha : IsCanon l c a) : a = canF l c := canon_unique ha (canF_is l c)
theorem canF_len (l : List St) (c : List Int) : (canF l c).length ≤ l.length := by
  unfold canF
  rw [List.length_mergeSort]
  exact Nat.le_trans (List.length_filter_le _ _) (by simp)
/-- A list of numbers, as the program has it. -/
def natI (o : List Nat) : List Int := o.map fun (i : Nat) => (i : Int)
@[go_sem] theorem natI_len (o : List Nat) : (natI o).length = o.length := by simp [natI]

/-- What Canonical hands back. -/
def canR (l : List St) (c : List Int) : List Int × Int :=
  if c.length ≠ l.length then ([], 1) else if 300 < (canF l c).length then ([], 3) else (natI (canF l c), 0)
def canC : Con where
  α := List St × List Int
  kinds := [false, false]
  args := fun a => [.d (.sl 3 (stR a.1)), .d (.sl 1 (intL a.2))]
  pre := fun a => a.1.length ≤ 1000000
  post := fun a r => r = ⟨[.own 1 (intL (canR a.1 a.2).1), .d (i64 (canR a.1 a.2).2)], []⟩
  clean := true
end Go.Proofs.R1

/- Identities of a list of stamps. -/
set_option linter.unusedVariables false
set_option linter.unusedSimpArgs false
set_option maxRecDepth 8000
set_option maxHeartbeats 4000000
namespace Go.Proofs.R1
open Go Go.Abs

theorem validP_call {K : Kt} (hk : K 77 = some validC) {np fid : Nat} {M : Mem} {nx : D → Mem → Prop} (s : St) {d : D} (hd : d = .agg (stD s)) (hf : M fid = none) (hn : nx (bl (valS s)) M) : semCall K np 77 [d] M fid nx := by
  subst hd
  exact call_fn hk rfl rfl (fun _ _ h => h) s rfl trivial hf hn

abbrev Ident := Int × Int
def idS (s : St) : Ident := (s.2.1, s.2.2)
abbrev Seen := Nat × Bool
def seenD (x : Seen) : D := .agg [i64 x.1, bl x.2]
abbrev idM : List (Ident × Seen) → List (D × D) := mapE idD seenD
theorem idD_eq (a b : Ident) : eqCells (idD a) (idD b) = some (decide (a = b)) := by
  obtain ⟨x, y⟩ := a; obtain ⟨z, w⟩ := b
  simp only [idD, eqCells, if_true, Option.map_some, Prod.mk.injEq, Option.some.injEq, Bool.and_true]
  rw [Bool.eq_iff_iff]; simp
@[go_sem] theorem idM_find (l : List (Ident × Seen)) (a b : Int) : findK (idM l) (.agg [i64 a, i64 b]) 0 = some ((lookK l (a, b)).map fun x => (posK l (a, b) 0, seenD x)) := findK_look idD_eq (a, b) l 0
@[go_sem] theorem idM_put (l : List (Ident × Seen)) (a b : Int) (n : Nat) (t : Bool) : setK (idM l) (.agg [i64 a, i64 b]) (.agg [i64 n, bl t]) = some (idM (putK l (a, b) (n, t))) := setK_mapE (ve := seenD) idD_eq (a, b) l (n, t)

/-- What the map says of the first i events. -/
structure IdInv (l : List St) (c : List Int) (i : Nat) (m : List (Ident × Seen)) : Prop where
  keys : (m.map Prod.fst).Nodup
  ent : ∀ id f d, (id, (f, d)) ∈ m → f < i ∧ valS (stAt l f) = true ∧ idS (stAt l f) = id ∧ (∀ k, k < f → valS (stAt l k) = true → idS (stAt l k) ≠ id) ∧
    (d = true ↔ ∃ k, k < i ∧ valS (stAt l k) = true ∧ idS (stAt l k) = id ∧ (stAt l k ≠ stAt l f ∨ inAt c k ≠ inAt c f))
  all : ∀ k, k < i → valS (stAt l k) = true → ∃ v, (idS (stAt l k), v) ∈ m

theorem IdInv.skip {l c i m} (h : IdInv l c i m) (hv : valS (stAt l i) = false) : IdInv l c (i + 1) m := by
  refine ⟨h.keys, fun id f d hm => ?_, fun k hk hvk => ?_⟩
  · obtain ⟨h1, h2, h3, h4, h5⟩ := h.ent id f d hm
    refine ⟨by omega, h2, h3, h4, h5.trans ⟨fun ⟨k, a, b⟩ => ⟨k, by omega, b⟩, fun ⟨k, a, b, c⟩ => ⟨k, ?_, b, c⟩⟩⟩
    rcases Nat.lt_or_ge k i with h | h
    · exact h
    · have : k = i := by omega
      subst this; rw [hv] at b; cases b
  · rcases Nat.lt_or_ge k i with h' | h'
    · exact h.all k h' hvk
    · have : k = i := by omega
      subst this; rw [hv] at hvk; cases hvk
theorem IdInv.new {l c i m} (h : IdInv l c i m) (hv : valS (stAt l i) = true) (hl : lookK m (idS (stAt l i)) = none) : IdInv l c (i + 1) (putK m (idS (stAt l i)) (i, false)) := by
  have hno : ∀ k, k < i → valS (stAt l k) = true → idS (stAt l k) ≠ idS (stAt l i) := fun k hk hvk he => by
    obtain ⟨v, hm⟩ := h.all k hk hvk
    rw [he] at hm
    exact lookK_none hl v hm
  refine ⟨putK_nodup h.keys, fun id f d hm => ?_, fun k hk hvk => ?_⟩
  · rcases (putK_mem h.keys _).1 hm with he | ⟨hm, hne⟩
    · cases he
      refine ⟨by omega, hv, rfl, hno, by simp; intro k hk hvk he; rcases Nat.lt_or_ge k i with h' | h'; exact absurd he (hno k h' hvk); (have : k = i := by omega); subst this; simp⟩
    · obtain ⟨h1, h2, h3, h4, h5⟩ := h.ent id f d hm
      refine ⟨by omega, h2, h3, h4, h5.trans ⟨fun ⟨k, a, b⟩ => ⟨k, by omega, b⟩, fun ⟨k, a, b, c, d⟩ => ⟨k, ?_, b, c, d⟩⟩⟩
      rcases Nat.lt_or_ge k i with h | h
      · exact h
      · have : k = i := by omega
        subst this; exact absurd c.symm hne
  · rcases Nat.lt_or_ge k i with h' | h'
    · obtain ⟨v, hm⟩ := h.all k h' hvk
      exact ⟨v, (putK_mem h.keys _).2 (.inr ⟨hm, hno k h' hvk⟩)⟩
    · have : k = i := by omega
      subst this; exact ⟨_, (putK_mem h.keys _).2 (.inl rfl)⟩
theorem IdInv.old {l c i m f d} (h : IdInv l c i m) (hv : valS (stAt l i) = true) (hl : lookK m (idS (stAt l i)) = some (f, d)) (d' : Bool) (hd : d' = true ↔ d = true ∨ stAt l f ≠ stAt l i ∨ inAt c f ≠ inAt c i) :
    IdInv l c (i + 1) (putK m (idS (stAt l i)) (f, d')) := by
  have hf := h.ent _ f d (lookK_some hl)
  refine ⟨putK_nodup h.keys, fun id f2 d2 hm => ?_, fun k hk hvk => ?_⟩
  · rcases (putK_mem h.keys _).1 hm with he | ⟨hm, hne⟩
    · cases he
      obtain ⟨h1, h2, h3, h4, h5⟩ := hf
      refine ⟨by omega, h2, h3, h4, ?_⟩
      rw [hd, h5]
      constructor
      · rintro (⟨k, a, b⟩ | b)
        · exact ⟨k, by omega, b⟩
        · exact ⟨i, by omega, hv, rfl, b.imp (fun h => Ne.symm h) (fun h => Ne.symm h)⟩
      · rintro ⟨k, a, b, e, g⟩
        rcases Nat.lt_or_ge k i with h' | h'
        · exact .inl ⟨k, h', b, e, g⟩
        · have : k = i := by omega
          subst this; exact .inr (g.imp (fun h => Ne.symm h) (fun h => Ne.symm h))
    · obtain ⟨h1, h2, h3, h4, h5⟩ := h.ent id f2 d2 hm
      refine ⟨by omega, h2, h3, h4, h5.trans ⟨fun ⟨k, a, b⟩ => ⟨k, by omega, b⟩, fun ⟨k, a, b, c, d⟩ => ⟨k, ?_, b, c, d⟩⟩⟩
      rcases Nat.lt_or_ge k i with h | h
      · exact h
      · have : k = i := by omega
        subst this; exact absurd c.symm hne
  · by_cases he : idS (stAt l k) = idS (stAt l i)
    · rw [he]; exact ⟨_, (putK_mem h.keys _).2 (.inl rfl)⟩
    · rcases Nat.lt_or_ge k i with h' | h'
      · obtain ⟨v, hm⟩ := h.all k h' hvk
        exact ⟨v, (putK_mem h.keys _).2 (.inr ⟨hm, he⟩)⟩
      · have : k = i := by omega
        subst this; exact absurd rfl he

abbrev identsC : Con where
  α := List St × List Int
  kinds := [false, false]
  args := fun a => [.d (.sl 3 (stR a.1)), .d (.sl 1 (intL a.2))]
  pre := fun a => a.2.length = a.1.length ∧ a.1.length ≤ 1000000
  post := fun a r => ∃ m, IdInv a.1 a.2 a.1.length m ∧ r = ⟨[.omap (idM m)], []⟩
  clean := true
theorem plain_idM (m : List (Ident × Seen)) : plainRD (.omap (idM m)) = true := by
  simp only [plainRD, idM, mapE, List.all_map, List.all_eq_true]
  intro p hp
  rfl
theorem idents_ok : CallOk Try.prog 68 identsC := by
  refine ok_of_body' 66 2 Try.func68 rfl (by decide) Try.ntmps68 (by intro a h; exact ⟨rfl, rfl⟩) (by decide) (by rintro _ a r _ ⟨m, _, rfl⟩; simp only [List.all_cons, List.all_nil, plain_idM]; rfl) ?_
  rintro ⟨l, c⟩ ⟨hl, h1⟩
  simp only [identsC] at hl h1 ⊢
  simp only [initE, initMm, List.length_cons, List.length_nil, Nat.reduceAdd]
  have hK : KOk Try.prog (kOf [(77, validC)]) := kOk_cons valid_ok kOk_nil
  have hD : KDet (kOf [(77, validC)]) := kDet_cons (fun _ _ => ⟨_, rfl, by simp, fun _ h => h⟩) kDet_nil
  have s1 : validC.srt = none := rfl
  have c1 : validC.clean = true := rfl
  repeat' (first
    | (with_reducible refine aw_seq ?_)
    | (with_reducible refine kont_in ?_; simp only [go_sem, reduceIte, Nat.reduceLT, Nat.reduceEqDiff, Nat.reduceAdd, Nat.reduceMul, Nat.reduceSub, Nat.reduceLeDiff, reduceCtorEq, s1, c1])
    | (with_reducible refine dKont_in ?_; simp only [go_sem, reduceIte, Nat.reduceLT, Nat.reduceEqDiff, Nat.reduceAdd, Nat.reduceMul, Nat.reduceSub, Nat.reduceLeDiff, reduceCtorEq, s1, c1])
    | (with_reducible refine aw_drw (by kernel_rfl) hK hD ?_; simp only [go_sem, reduceIte, Nat.reduceLT, Nat.reduceEqDiff, Nat.reduceAdd, Nat.reduceMul, Nat.reduceSub, Nat.reduceLeDiff, reduceCtorEq, s1, c1])
    | (with_reducible refine aw_reg hK ?_; simp only [go_sem, reduceIte, Nat.reduceLT, Nat.reduceEqDiff, Nat.reduceAdd, Nat.reduceMul, Nat.reduceSub, Nat.reduceLeDiff, reduceCtorEq, s1, c1])
    | (with_reducible refine aw_if ?_; simp only [go_sem, reduceIte, Nat.reduceLT, Nat.reduceEqDiff, Nat.reduceAdd, Nat.reduceMul, Nat.reduceSub, Nat.reduceLeDiff, reduceCtorEq, s1, c1])
    | (with_reducible refine aw_block ?_)
    | (with_reducible refine aw_ret ?_; (try simp only [thenQ, blockQ]); refine aw_ret' ?_; simp only [go_sem, reduceIte, Nat.reduceLT, Nat.reduceEqDiff, Nat.reduceAdd, Nat.reduceMul, Nat.reduceSub, Nat.reduceLeDiff, reduceCtorEq, s1, c1])
    | (with_reducible refine aw_exit ?_; simp only [thenQ, blockQ, reduceIte, Nat.reduceEqDiff])
    | (with_reducible refine aw_skip ?_; simp only [thenQ, blockQ])
    | (with_reducible refine gate_intro (fun h => ?_) (fun h => ?_) <;> simp only [h, go_sem, reduceIte, Nat.reduceLT, Nat.reduceEqDiff, Nat.reduceAdd, Nat.reduceMul, Nat.reduceSub, Nat.reduceLeDiff, reduceCtorEq, s1, c1] <;> (try simp only [decide_eq_true_eq, decide_eq_false_iff_not, Bool.not_true] at h))
    | (with_reducible refine chk_in (by kernel_rfl) ?_)
    | (with_reducible refine And.intro (And.intro (by omega) (by omega)) ?_)
    | (with_reducible refine And.intro (by omega) ?_)
    | (rw [get_in]; rotate_left; omega; simp only [go_sem, reduceIte, Nat.reduceLT, Nat.reduceEqDiff, Nat.reduceAdd, Nat.reduceMul, Nat.reduceSub, Nat.reduceLeDiff, reduceCtorEq, s1, c1])
    | fail)
  refine aw_rounds (α := Nat × List (Ident × Seen)) (fun x => ⟨envOf [(0, .sl 3 (stR l)), (1, .sl 1 (intL c)), (5, .mp 100), (12, .sl 3 (stR l)), (13, i64 l.length), (14, i64 x.1)], memOf [(100, .map (idM x.2) true)], 200⟩)
    (fun x => x.1 ≤ l.length ∧ IdInv l c x.1 x.2) (fun x => l.length - x.1) (0, []) ⟨Nat.zero_le _, ⟨by simp, by simp, by intro k hk; simp at hk⟩⟩ (weak_in [(100, _)] (by repeat' (first | trivial | constructor | rfl)) (by repeat' (first | trivial | constructor | rfl)) (by rfl) (by rfl) (by rfl)) ?_
  rintro ⟨i, m⟩ ⟨hi, hI⟩
  simp only at hi hI ⊢
  by_cases hlt : i < l.length
  case neg =>
    have hc : decide ((i : Int) < (l.length : Int)) = false := by simp <;> omega
    repeat' (first
    | (with_reducible refine aw_seq ?_)
    | (with_reducible refine kont_in ?_; simp only [go_sem, reduceIte, Nat.reduceLT, Nat.reduceEqDiff, Nat.reduceAdd, Nat.reduceMul, Nat.reduceSub, Nat.reduceLeDiff, reduceCtorEq, hc, s1, c1])
    | (with_reducible refine dKont_in ?_; simp only [go_sem, reduceIte, Nat.reduceLT, Nat.reduceEqDiff, Nat.reduceAdd, Nat.reduceMul, Nat.reduceSub, Nat.reduceLeDiff, reduceCtorEq, hc, s1, c1])
    | (with_reducible refine aw_drw (by kernel_rfl) hK hD ?_; simp only [go_sem, reduceIte, Nat.reduceLT, Nat.reduceEqDiff, Nat.reduceAdd, Nat.reduceMul, Nat.reduceSub, Nat.reduceLeDiff, reduceCtorEq, hc, s1, c1])
    | (with_reducible refine aw_reg hK ?_; simp only [go_sem, reduceIte, Nat.reduceLT, Nat.reduceEqDiff, Nat.reduceAdd, Nat.reduceMul, Nat.reduceSub, Nat.reduceLeDiff, reduceCtorEq, hc, s1, c1])
    | (with_reducible refine aw_if ?_; simp only [go_sem, reduceIte, Nat.reduceLT, Nat.reduceEqDiff, Nat.reduceAdd, Nat.reduceMul, Nat.reduceSub, Nat.reduceLeDiff, reduceCtorEq, hc, s1, c1])
    | (with_reducible refine aw_block ?_)
    | (with_reducible refine aw_ret ?_; (try simp only [thenQ, blockQ]); refine aw_ret' ?_; simp only [go_sem, reduceIte, Nat.reduceLT, Nat.reduceEqDiff, Nat.reduceAdd, Nat.reduceMul, Nat.reduceSub, Nat.reduceLeDiff, reduceCtorEq, hc, s1, c1])
    | (with_reducible refine aw_exit ?_; simp only [thenQ, blockQ, reduceIte, Nat.reduceEqDiff])
    | (with_reducible refine aw_skip ?_; simp only [thenQ, blockQ])
    | (with_reducible refine gate_intro (fun h => ?_) (fun h => ?_) <;> simp only [h, go_sem, reduceIte, Nat.reduceLT, Nat.reduceEqDiff, Nat.reduceAdd, Nat.reduceMul, Nat.reduceSub, Nat.reduceLeDiff, reduceCtorEq, hc, s1, c1] <;> (try simp only [decide_eq_true_eq, decide_eq_false_iff_not, Bool.not_true] at h))
    | (with_reducible refine chk_in (by kernel_rfl) ?_)
    | (with_reducible refine And.intro (And.intro (by omega) (by omega)) ?_)
    | (with_reducible refine And.intro (by omega) ?_)
    | (rw [get_in]; rotate_left; omega; simp only [go_sem, reduceIte, Nat.reduceLT, Nat.reduceEqDiff, Nat.reduceAdd, Nat.reduceMul, Nat.reduceSub, Nat.reduceLeDiff, reduceCtorEq, hc, s1, c1])
    | fail)
    have e : i = l.length := by omega
    subst e
    exact ⟨m, hI, rfl⟩
  have hc : decide ((i : Int) < (l.length : Int)) = true := by simp <;> omega
  have hw := wrS (i := i) (by omega)
  obtain ⟨⟨a1, a2, a3⟩, hx⟩ : ∃ s, l[i]? = some s := ⟨_, List.getElem?_eq_getElem hlt⟩
  have hs : stAt l i = (a1, a2, a3) := by simp [stAt, hx]
  obtain ⟨ci, hci⟩ : ∃ s, c[i]? = some s := ⟨_, List.getElem?_eq_getElem (by omega)⟩
  have hsc : inAt c i = ci := by simp [inAt, hci]
  cases hlk : lookK m (a2, a3) with
  | none =>
    repeat' (first
    | (with_reducible refine aw_seq ?_)
    | (with_reducible refine kont_in ?_; simp only [go_sem, reduceIte, Nat.reduceLT, Nat.reduceEqDiff, Nat.reduceAdd, Nat.reduceMul, Nat.reduceSub, Nat.reduceLeDiff, reduceCtorEq, hc, hw, hx, hci, hlk, stD, s1, c1])
    | (with_reducible refine dKont_in ?_; simp only [go_sem, reduceIte, Nat.reduceLT, Nat.reduceEqDiff, Nat.reduceAdd, Nat.reduceMul, Nat.reduceSub, Nat.reduceLeDiff, reduceCtorEq, hc, hw, hx, hci, hlk, stD, s1, c1])
    | (with_reducible refine aw_drw (by kernel_rfl) hK hD ?_; simp only [go_sem, reduceIte, Nat.reduceLT, Nat.reduceEqDiff, Nat.reduceAdd, Nat.reduceMul, Nat.reduceSub, Nat.reduceLeDiff, reduceCtorEq, hc, hw, hx, hci, hlk, stD, s1, c1])
    | (with_reducible refine aw_reg hK ?_; simp only [go_sem, reduceIte, Nat.reduceLT, Nat.reduceEqDiff, Nat.reduceAdd, Nat.reduceMul, Nat.reduceSub, Nat.reduceLeDiff, reduceCtorEq, hc, hw, hx, hci, hlk, stD, s1, c1])
    | (with_reducible refine aw_if ?_; simp only [go_sem, reduceIte, Nat.reduceLT, Nat.reduceEqDiff, Nat.reduceAdd, Nat.reduceMul, Nat.reduceSub, Nat.reduceLeDiff, reduceCtorEq, hc, hw, hx, hci, hlk, stD, s1, c1])
    | (with_reducible refine aw_block ?_)
    | (with_reducible refine aw_ret ?_; (try simp only [thenQ, blockQ]); refine aw_ret' ?_; simp only [go_sem, reduceIte, Nat.reduceLT, Nat.reduceEqDiff, Nat.reduceAdd, Nat.reduceMul, Nat.reduceSub, Nat.reduceLeDiff, reduceCtorEq, hc, hw, hx, hci, hlk, stD, s1, c1])
    | (with_reducible refine aw_exit ?_; simp only [thenQ, blockQ, reduceIte, Nat.reduceEqDiff])
    | (with_reducible refine aw_skip ?_; simp only [thenQ, blockQ])
    | (with_reducible refine gate_intro (fun h => ?_) (fun h => ?_) <;> simp only [h, go_sem, reduceIte, Nat.reduceLT, Nat.reduceEqDiff, Nat.reduceAdd, Nat.reduceMul, Nat.reduceSub, Nat.reduceLeDiff, reduceCtorEq, hc, hw, hx, hci, hlk, stD, s1, c1] <;> (try simp only [decide_eq_true_eq, decide_eq_false_iff_not, Bool.not_true] at h))
    | (with_reducible refine chk_in (by kernel_rfl) ?_)
    | (with_reducible refine And.intro (And.intro (by omega) (by omega)) ?_)
    | (with_reducible refine And.intro (by omega) ?_)
    | (refine validP_call rfl (a1, a2, a3) rfl rfl ?_)
    | (rw [get_in]; rotate_left; omega; simp only [go_sem, reduceIte, Nat.reduceLT, Nat.reduceEqDiff, Nat.reduceAdd, Nat.reduceMul, Nat.reduceSub, Nat.reduceLeDiff, reduceCtorEq, hc, hw, hx, hci, hlk, stD, s1, c1])
    | fail)
    · exact ⟨(i + 1, m), weak_in [(100, 100)] (by repeat' (first | trivial | constructor | rfl)) (by repeat' (first | trivial | constructor | rfl)) (by rfl) (by rfl) (by rfl), ⟨by simp only; omega, hI.skip (by rw [hs]; simpa using h)⟩, by simp only; omega⟩
    · have := hI.new (by rw [hs]; simpa using h) (by rw [hs]; exact hlk)
      rw [hs] at this
      refine ⟨(i + 1, putK m (a2, a3) (i, false)), weak_in [(100, 100)] (by repeat' (first | trivial | constructor | rfl)) (by repeat' (first | trivial | constructor | rfl)) (by rfl) (by rfl) (by rfl), ⟨by simp only; omega, by simpa [idS] using this⟩, by simp only; omega⟩
  | some x =>
    obtain ⟨f, d⟩ := x
    have hf := (hI.ent _ f d (lookK_some hlk)).1
    obtain ⟨⟨b1, b2, b3⟩, hy⟩ : ∃ s, l[f]? = some s := ⟨_, List.getElem?_eq_getElem (by omega)⟩
    have ht : stAt l f = (b1, b2, b3) := by simp [stAt, hy]
    obtain ⟨cf, hcf⟩ : ∃ s, c[f]? = some s := ⟨_, List.getElem?_eq_getElem (by omega)⟩
    have htc : inAt c f = cf := by simp [inAt, hcf]
    repeat' (first
    | (with_reducible refine aw_seq ?_)
    | (with_reducible refine kont_in ?_; simp only [go_sem, reduceIte, Nat.reduceLT, Nat.reduceEqDiff, Nat.reduceAdd, Nat.reduceMul, Nat.reduceSub, Nat.reduceLeDiff, reduceCtorEq, hc, hw, hx, hci, hy, hcf, hlk, stD, seenD, s1, c1])
    | (with_reducible refine dKont_in ?_; simp only [go_sem, reduceIte, Nat.reduceLT, Nat.reduceEqDiff, Nat.reduceAdd, Nat.reduceMul, Nat.reduceSub, Nat.reduceLeDiff, reduceCtorEq, hc, hw, hx, hci, hy, hcf, hlk, stD, seenD, s1, c1])
    | (with_reducible refine aw_drw (by kernel_rfl) hK hD ?_; simp only [go_sem, reduceIte, Nat.reduceLT, Nat.reduceEqDiff, Nat.reduceAdd, Nat.reduceMul, Nat.reduceSub, Nat.reduceLeDiff, reduceCtorEq, hc, hw, hx, hci, hy, hcf, hlk, stD, seenD, s1, c1])
    | (with_reducible refine aw_reg hK ?_; simp only [go_sem, reduceIte, Nat.reduceLT, Nat.reduceEqDiff, Nat.reduceAdd, Nat.reduceMul, Nat.reduceSub, Nat.reduceLeDiff, reduceCtorEq, hc, hw, hx, hci, hy, hcf, hlk, stD, seenD, s1, c1])
    | (with_reducible refine aw_if ?_; simp only [go_sem, reduceIte, Nat.reduceLT, Nat.reduceEqDiff, Nat.reduceAdd, Nat.reduceMul, Nat.reduceSub, Nat.reduceLeDiff, reduceCtorEq, hc, hw, hx, hci, hy, hcf, hlk, stD, seenD, s1, c1])
    | (with_reducible refine aw_block ?_)
    | (with_reducible refine aw_ret ?_; (try simp only [thenQ, blockQ]); refine aw_ret' ?_; simp only [go_sem, reduceIte, Nat.reduceLT, Nat.reduceEqDiff, Nat.reduceAdd, Nat.reduceMul, Nat.reduceSub, Nat.reduceLeDiff, reduceCtorEq, hc, hw, hx, hci, hy, hcf, hlk, stD, seenD, s1, c1])
    | (with_reducible refine aw_exit ?_; simp only [thenQ, blockQ, reduceIte, Nat.reduceEqDiff])
    | (with_reducible refine aw_skip ?_; simp only [thenQ, blockQ])
    | (with_reducible refine gate_intro (fun h => ?_) (fun h => ?_) <;> simp only [h, go_sem, reduceIte, Nat.reduceLT, Nat.reduceEqDiff, Nat.reduceAdd, Nat.reduceMul, Nat.reduceSub, Nat.reduceLeDiff, reduceCtorEq, hc, hw, hx, hci, hy, hcf, hlk, stD, seenD, s1, c1] <;> (try simp only [decide_eq_true_eq, decide_eq_false_iff_not, Bool.not_true] at h))
    | (with_reducible refine chk_in (by kernel_rfl) ?_)
    | (with_reducible refine And.intro (And.intro (by omega) (by omega)) ?_)
    | (with_reducible refine And.intro (by omega) ?_)
    | (refine validP_call rfl (a1, a2, a3) rfl rfl ?_)
    | (rw [get_in]; rotate_left; omega; simp only [go_sem, reduceIte, Nat.reduceLT, Nat.reduceEqDiff, Nat.reduceAdd, Nat.reduceMul, Nat.reduceSub, Nat.reduceLeDiff, reduceCtorEq, hc, hw, hx, hci, hy, hcf, hlk, stD, seenD, s1, c1])
    | fail)
    · exact ⟨(i + 1, m), weak_in [(100, 100)] (by repeat' (first | trivial | constructor | rfl)) (by repeat' (first | trivial | constructor | rfl)) (by rfl) (by rfl) (by rfl), ⟨by simp only; omega, hI.skip (by rw [hs]; simpa using h)⟩, by simp only; omega⟩
    all_goals
      have old := fun d' => hI.old (d' := d') (by rw [hs]; simp_all) (by rw [hs]; exact hlk)
      simp only [hs, ht, hsc, htc, idS] at old
      refine ⟨(i + 1, putK m (a2, a3) (f, _)), weak_in [(100, 100)] (by repeat' (first | trivial | constructor | rfl)) (by repeat' (first | trivial | constructor | rfl)) (by rfl) (by rfl) (by rfl), ⟨by simp only; omega, old _ (by clear old; first | (simp_all; done) | (simp_all; omega))⟩, by simp only; omega⟩
theorem idents_call {K : Kt} (hk : K 68 = some identsC) {np fid : Nat} {M : Mem} {nx : D → Mem → Prop} (l : List St) (c : List Int) {x y : D} (hx : fz M true 4 x = some (.sl 3 (stR l))) (hy : fz M true 4 y = some (.sl 1 (intL c))) (hp : c.length = l.length ∧ l.length ≤ 1000000) (hf : ∀ j, M (fid + j) = none)
    (hn : ∀ m, IdInv l c l.length m → nx (.mp fid) (upd M fid (some (.map (idM m) true)))) : semCall K np 68 [x, y] M fid nx :=
  call_clR hk rfl rfl (l, c) (by simp only [argsV, mapO, hx, hy]; rfl) hp hf (by rintro r ⟨m, h, rfl⟩; exact hn m h)
end Go.Proofs.R1
