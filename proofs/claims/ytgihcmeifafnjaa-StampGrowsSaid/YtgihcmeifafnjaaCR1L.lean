/- Identities of a list of stamps. -/
import Derived.Test.YtgihcmeifafnjaaCR1K
set_option linter.unusedVariables false
set_option linter.unusedSimpArgs false
set_option maxRecDepth 8000
set_option maxHeartbeats 4000000
namespace Go.Proofs.R1
open Go Go.Abs

theorem validP_call {K : Kt} (hk : K 12 = some validC) {np fid : Nat} {M : Mem} {nx : D → Mem → Prop} (s : St) {d : D} (hd : d = .agg (stD s)) (hf : M fid = none) (hn : nx (bl (valS s)) M) : semCall K np 12 [d] M fid nx := by
  subst hd
  exact call_fn hk rfl rfl (fun _ _ h => h) s rfl trivial hf hn

abbrev Ident := Int × Int
def idS (s : St) : Ident := (s.2.1, s.2.2)
abbrev Seen := Nat × Bool
def seenD (x : Seen) : D := .agg [i64 x.1, bl x.2]
abbrev idM : List (Ident × Seen) → List (D × D) := mapE idD seenD
theorem idD_eq (a b : Ident) : eqCells (idD a) (idD b) = some (decide (a = b)) := by
  obtain ⟨x, y⟩ := a; obtain ⟨z, w⟩ := b
  simp only [idD, eqCells, if_true, Option.map_some, Prod.mk.injEq, Option.some.injEq, Bool.and_true]
  rw [Bool.eq_iff_iff]; simp
@[go_sem] theorem idM_find (l : List (Ident × Seen)) (a b : Int) : findK (idM l) (.agg [i64 a, i64 b]) 0 = some ((lookK l (a, b)).map fun x => (posK l (a, b) 0, seenD x)) := findK_look idD_eq (a, b) l 0
@[go_sem] theorem idM_put (l : List (Ident × Seen)) (a b : Int) (n : Nat) (t : Bool) : setK (idM l) (.agg [i64 a, i64 b]) (.agg [i64 n, bl t]) = some (idM (putK l (a, b) (n, t))) := setK_mapE (ve := seenD) idD_eq (a, b) l (n, t)

/-- What the map says of the first i events. -/
structure IdInv (l : List St) (c : List Int) (i : Nat) (m : List (Ident × Seen)) : Prop where
  keys : (m.map Prod.fst).Nodup
  ent : ∀ id f d, (id, (f, d)) ∈ m → f < i ∧ valS (stAt l f) = true ∧ idS (stAt l f) = id ∧ (∀ k, k < f → valS (stAt l k) = true → idS (stAt l k) ≠ id) ∧
    (d = true ↔ ∃ k, k < i ∧ valS (stAt l k) = true ∧ idS (stAt l k) = id ∧ (stAt l k ≠ stAt l f ∨ inAt c k ≠ inAt c f))
  all : ∀ k, k < i → valS (stAt l k) = true → ∃ v, (idS (stAt l k), v) ∈ m

theorem IdInv.skip {l c i m} (h : IdInv l c i m) (hv : valS (stAt l i) = false) : IdInv l c (i + 1) m := by
  refine ⟨h.keys, fun id f d hm => ?_, fun k hk hvk => ?_⟩
  · obtain ⟨h1, h2, h3, h4, h5⟩ := h.ent id f d hm
    refine ⟨by omega, h2, h3, h4, h5.trans ⟨fun ⟨k, a, b⟩ => ⟨k, by omega, b⟩, fun ⟨k, a, b, c⟩ => ⟨k, ?_, b, c⟩⟩⟩
    rcases Nat.lt_or_ge k i with h | h
    · exact h
    · have : k = i := by omega
      subst this; rw [hv] at b; cases b
  · rcases Nat.lt_or_ge k i with h' | h'
    · exact h.all k h' hvk
    · have : k = i := by omega
      subst this; rw [hv] at hvk; cases hvk
theorem IdInv.new {l c i m} (h : IdInv l c i m) (hv : valS (stAt l i) = true) (hl : lookK m (idS (stAt l i)) = none) : IdInv l c (i + 1) (putK m (idS (stAt l i)) (i, false)) := by
  have hno : ∀ k, k < i → valS (stAt l k) = true → idS (stAt l k) ≠ idS (stAt l i) := fun k hk hvk he => by
    obtain ⟨v, hm⟩ := h.all k hk hvk
    rw [he] at hm
    exact lookK_none hl v hm
  refine ⟨putK_nodup h.keys, fun id f d hm => ?_, fun k hk hvk => ?_⟩
  · rcases (putK_mem h.keys _).1 hm with he | ⟨hm, hne⟩
    · cases he
      refine ⟨by omega, hv, rfl, hno, by simp; intro k hk hvk he; rcases Nat.lt_or_ge k i with h' | h'; exact absurd he (hno k h' hvk); (have : k = i := by omega); subst this; simp⟩
    · obtain ⟨h1, h2, h3, h4, h5⟩ := h.ent id f d hm
      refine ⟨by omega, h2, h3, h4, h5.trans ⟨fun ⟨k, a, b⟩ => ⟨k, by omega, b⟩, fun ⟨k, a, b, c, d⟩ => ⟨k, ?_, b, c, d⟩⟩⟩
      rcases Nat.lt_or_ge k i with h | h
      · exact h
      · have : k = i := by omega
        subst this; exact absurd c.symm hne
  · rcases Nat.lt_or_ge k i with h' | h'
    · obtain ⟨v, hm⟩ := h.all k h' hvk
      exact ⟨v, (putK_mem h.keys _).2 (.inr ⟨hm, hno k h' hvk⟩)⟩
    · have : k = i := by omega
      subst this; exact ⟨_, (putK_mem h.keys _).2 (.inl rfl)⟩
theorem IdInv.old {l c i m f d} (h : IdInv l c i m) (hv : valS (stAt l i) = true) (hl : lookK m (idS (stAt l i)) = some (f, d)) (d' : Bool) (hd : d' = true ↔ d = true ∨ stAt l f ≠ stAt l i ∨ inAt c f ≠ inAt c i) :
    IdInv l c (i + 1) (putK m (idS (stAt l i)) (f, d')) := by
  have hf := h.ent _ f d (lookK_some hl)
  refine ⟨putK_nodup h.keys, fun id f2 d2 hm => ?_, fun k hk hvk => ?_⟩
  · rcases (putK_mem h.keys _).1 hm with he | ⟨hm, hne⟩
    · cases he
      obtain ⟨h1, h2, h3, h4, h5⟩ := hf
      refine ⟨by omega, h2, h3, h4, ?_⟩
      rw [hd, h5]
      constructor
      · rintro (⟨k, a, b⟩ | b)
        · exact ⟨k, by omega, b⟩
        · exact ⟨i, by omega, hv, rfl, b.imp (fun h => Ne.symm h) (fun h => Ne.symm h)⟩
      · rintro ⟨k, a, b, e, g⟩
        rcases Nat.lt_or_ge k i with h' | h'
        · exact .inl ⟨k, h', b, e, g⟩
        · have : k = i := by omega
          subst this; exact .inr (g.imp (fun h => Ne.symm h) (fun h => Ne.symm h))
    · obtain ⟨h1, h2, h3, h4, h5⟩ := h.ent id f2 d2 hm
      refine ⟨by omega, h2, h3, h4, h5.trans ⟨fun ⟨k, a, b⟩ => ⟨k, by omega, b⟩, fun ⟨k, a, b, c, d⟩ => ⟨k, ?_, b, c, d⟩⟩⟩
      rcases Nat.lt_or_ge k i with h | h
      · exact h
      · have : k = i := by omega
        subst this; exact absurd c.symm hne
  · by_cases he : idS (stAt l k) = idS (stAt l i)
    · rw [he]; exact ⟨_, (putK_mem h.keys _).2 (.inl rfl)⟩
    · rcases Nat.lt_or_ge k i with h' | h'
      · obtain ⟨v, hm⟩ := h.all k h' hvk
        exact ⟨v, (putK_mem h.keys _).2 (.inr ⟨hm, he⟩)⟩
      · have : k = i := by omega
        subst this; exact absurd rfl he

abbrev identsC : Con where
  α := List St × List Int
  kinds := [false, false]
  args := fun a => [.d (.sl 3 (stR a.1)), .d (.sl 1 (intL a.2))]
  pre := fun a => a.2.length = a.1.length ∧ a.1.length ≤ 1000000
  post := fun a r => ∃ m, IdInv a.1 a.2 a.1.length m ∧ r = ⟨[.omap (idM m)], []⟩
  clean := true
theorem plain_idM (m : List (Ident × Seen)) : plainRD (.omap (idM m)) = true := by
  simp only [plainRD, idM, mapE, List.all_map, List.all_eq_true]
  intro p hp
  rfl
theorem idents_ok : CallOk Try.prog 37 identsC := by
  refine ok_of_body' 66 2 Try.func37 rfl (by decide) Try.ntmps37 (by intro a h; exact ⟨rfl, rfl⟩) (by decide) (by rintro _ a r _ ⟨m, _, rfl⟩; simp only [List.all_cons, List.all_nil, plain_idM]; rfl) ?_
  rintro ⟨l, c⟩ ⟨hl, h1⟩
  simp only [identsC] at hl h1 ⊢
  simp only [initE, initMm, List.length_cons, List.length_nil, Nat.reduceAdd]
  have hK : KOk Try.prog (kOf [(12, validC)]) := kOk_cons valid_ok kOk_nil
  have hD : KDet (kOf [(12, validC)]) := kDet_cons (fun _ _ => ⟨_, rfl, by simp, fun _ h => h⟩) kDet_nil
  have s1 : validC.srt = none := rfl
  have c1 : validC.clean = true := rfl
  repeat' (first
    | (with_reducible refine aw_seq ?_)
    | (with_reducible refine kont_in ?_; simp only [go_sem, reduceIte, Nat.reduceLT, Nat.reduceEqDiff, Nat.reduceAdd, Nat.reduceMul, Nat.reduceSub, Nat.reduceLeDiff, reduceCtorEq, s1, c1])
    | (with_reducible refine dKont_in ?_; simp only [go_sem, reduceIte, Nat.reduceLT, Nat.reduceEqDiff, Nat.reduceAdd, Nat.reduceMul, Nat.reduceSub, Nat.reduceLeDiff, reduceCtorEq, s1, c1])
    | (with_reducible refine aw_drw (by kernel_rfl) hK hD ?_; simp only [go_sem, reduceIte, Nat.reduceLT, Nat.reduceEqDiff, Nat.reduceAdd, Nat.reduceMul, Nat.reduceSub, Nat.reduceLeDiff, reduceCtorEq, s1, c1])
    | (with_reducible refine aw_reg hK ?_; simp only [go_sem, reduceIte, Nat.reduceLT, Nat.reduceEqDiff, Nat.reduceAdd, Nat.reduceMul, Nat.reduceSub, Nat.reduceLeDiff, reduceCtorEq, s1, c1])
    | (with_reducible refine aw_if ?_; simp only [go_sem, reduceIte, Nat.reduceLT, Nat.reduceEqDiff, Nat.reduceAdd, Nat.reduceMul, Nat.reduceSub, Nat.reduceLeDiff, reduceCtorEq, s1, c1])
    | (with_reducible refine aw_block ?_)
    | (with_reducible refine aw_ret ?_; (try simp only [thenQ, blockQ]); refine aw_ret' ?_; simp only [go_sem, reduceIte, Nat.reduceLT, Nat.reduceEqDiff, Nat.reduceAdd, Nat.reduceMul, Nat.reduceSub, Nat.reduceLeDiff, reduceCtorEq, s1, c1])
    | (with_reducible refine aw_exit ?_; simp only [thenQ, blockQ, reduceIte, Nat.reduceEqDiff])
    | (with_reducible refine aw_skip ?_; simp only [thenQ, blockQ])
    | (with_reducible refine gate_intro (fun h => ?_) (fun h => ?_) <;> simp only [h, go_sem, reduceIte, Nat.reduceLT, Nat.reduceEqDiff, Nat.reduceAdd, Nat.reduceMul, Nat.reduceSub, Nat.reduceLeDiff, reduceCtorEq, s1, c1] <;> (try simp only [decide_eq_true_eq, decide_eq_false_iff_not, Bool.not_true] at h))
    | (with_reducible refine chk_in (by kernel_rfl) ?_)
    | (with_reducible refine And.intro (And.intro (by omega) (by omega)) ?_)
    | (with_reducible refine And.intro (by omega) ?_)
    | (rw [get_in]; rotate_left; omega; simp only [go_sem, reduceIte, Nat.reduceLT, Nat.reduceEqDiff, Nat.reduceAdd, Nat.reduceMul, Nat.reduceSub, Nat.reduceLeDiff, reduceCtorEq, s1, c1])
    | fail)
  refine aw_rounds (α := Nat × List (Ident × Seen)) (fun x => ⟨envOf [(0, .sl 3 (stR l)), (1, .sl 1 (intL c)), (5, .mp 100), (12, .sl 3 (stR l)), (13, i64 l.length), (14, i64 x.1)], memOf [(100, .map (idM x.2) true)], 200⟩)
    (fun x => x.1 ≤ l.length ∧ IdInv l c x.1 x.2) (fun x => l.length - x.1) (0, []) ⟨Nat.zero_le _, ⟨by simp, by simp, by intro k hk; simp at hk⟩⟩ (weak_in [(100, _)] (by repeat' (first | trivial | constructor | rfl)) (by repeat' (first | trivial | constructor | rfl)) (by rfl) (by rfl) (by rfl)) ?_
  rintro ⟨i, m⟩ ⟨hi, hI⟩
  simp only at hi hI ⊢
  by_cases hlt : i < l.length
  case neg =>
    have hc : decide ((i : Int) < (l.length : Int)) = false := by simp <;> omega
    repeat' (first
    | (with_reducible refine aw_seq ?_)
    | (with_reducible refine kont_in ?_; simp only [go_sem, reduceIte, Nat.reduceLT, Nat.reduceEqDiff, Nat.reduceAdd, Nat.reduceMul, Nat.reduceSub, Nat.reduceLeDiff, reduceCtorEq, hc, s1, c1])
    | (with_reducible refine dKont_in ?_; simp only [go_sem, reduceIte, Nat.reduceLT, Nat.reduceEqDiff, Nat.reduceAdd, Nat.reduceMul, Nat.reduceSub, Nat.reduceLeDiff, reduceCtorEq, hc, s1, c1])
    | (with_reducible refine aw_drw (by kernel_rfl) hK hD ?_; simp only [go_sem, reduceIte, Nat.reduceLT, Nat.reduceEqDiff, Nat.reduceAdd, Nat.reduceMul, Nat.reduceSub, Nat.reduceLeDiff, reduceCtorEq, hc, s1, c1])
    | (with_reducible refine aw_reg hK ?_; simp only [go_sem, reduceIte, Nat.reduceLT, Nat.reduceEqDiff, Nat.reduceAdd, Nat.reduceMul, Nat.reduceSub, Nat.reduceLeDiff, reduceCtorEq, hc, s1, c1])
    | (with_reducible refine aw_if ?_; simp only [go_sem, reduceIte, Nat.reduceLT, Nat.reduceEqDiff, Nat.reduceAdd, Nat.reduceMul, Nat.reduceSub, Nat.reduceLeDiff, reduceCtorEq, hc, s1, c1])
    | (with_reducible refine aw_block ?_)
    | (with_reducible refine aw_ret ?_; (try simp only [thenQ, blockQ]); refine aw_ret' ?_; simp only [go_sem, reduceIte, Nat.reduceLT, Nat.reduceEqDiff, Nat.reduceAdd, Nat.reduceMul, Nat.reduceSub, Nat.reduceLeDiff, reduceCtorEq, hc, s1, c1])
    | (with_reducible refine aw_exit ?_; simp only [thenQ, blockQ, reduceIte, Nat.reduceEqDiff])
    | (with_reducible refine aw_skip ?_; simp only [thenQ, blockQ])
    | (with_reducible refine gate_intro (fun h => ?_) (fun h => ?_) <;> simp only [h, go_sem, reduceIte, Nat.reduceLT, Nat.reduceEqDiff, Nat.reduceAdd, Nat.reduceMul, Nat.reduceSub, Nat.reduceLeDiff, reduceCtorEq, hc, s1, c1] <;> (try simp only [decide_eq_true_eq, decide_eq_false_iff_not, Bool.not_true] at h))
    | (with_reducible refine chk_in (by kernel_rfl) ?_)
    | (with_reducible refine And.intro (And.intro (by omega) (by omega)) ?_)
    | (with_reducible refine And.intro (by omega) ?_)
    | (rw [get_in]; rotate_left; omega; simp only [go_sem, reduceIte, Nat.reduceLT, Nat.reduceEqDiff, Nat.reduceAdd, Nat.reduceMul, Nat.reduceSub, Nat.reduceLeDiff, reduceCtorEq, hc, s1, c1])
    | fail)
    have e : i = l.length := by omega
    subst e
    exact ⟨m, hI, rfl⟩
  have hc : decide ((i : Int) < (l.length : Int)) = true := by simp <;> omega
  have hw := wrS (i := i) (by omega)
  obtain ⟨⟨a1, a2, a3⟩, hx⟩ : ∃ s, l[i]? = some s := ⟨_, List.getElem?_eq_getElem hlt⟩
  have hs : stAt l i = (a1, a2, a3) := by simp [stAt, hx]
  obtain ⟨ci, hci⟩ : ∃ s, c[i]? = some s := ⟨_, List.getElem?_eq_getElem (by omega)⟩
  have hsc : inAt c i = ci := by simp [inAt, hci]
  cases hlk : lookK m (a2, a3) with
  | none =>
    repeat' (first
    | (with_reducible refine aw_seq ?_)
    | (with_reducible refine kont_in ?_; simp only [go_sem, reduceIte, Nat.reduceLT, Nat.reduceEqDiff, Nat.reduceAdd, Nat.reduceMul, Nat.reduceSub, Nat.reduceLeDiff, reduceCtorEq, hc, hw, hx, hci, hlk, stD, s1, c1])
    | (with_reducible refine dKont_in ?_; simp only [go_sem, reduceIte, Nat.reduceLT, Nat.reduceEqDiff, Nat.reduceAdd, Nat.reduceMul, Nat.reduceSub, Nat.reduceLeDiff, reduceCtorEq, hc, hw, hx, hci, hlk, stD, s1, c1])
    | (with_reducible refine aw_drw (by kernel_rfl) hK hD ?_; simp only [go_sem, reduceIte, Nat.reduceLT, Nat.reduceEqDiff, Nat.reduceAdd, Nat.reduceMul, Nat.reduceSub, Nat.reduceLeDiff, reduceCtorEq, hc, hw, hx, hci, hlk, stD, s1, c1])
    | (with_reducible refine aw_reg hK ?_; simp only [go_sem, reduceIte, Nat.reduceLT, Nat.reduceEqDiff, Nat.reduceAdd, Nat.reduceMul, Nat.reduceSub, Nat.reduceLeDiff, reduceCtorEq, hc, hw, hx, hci, hlk, stD, s1, c1])
    | (with_reducible refine aw_if ?_; simp only [go_sem, reduceIte, Nat.reduceLT, Nat.reduceEqDiff, Nat.reduceAdd, Nat.reduceMul, Nat.reduceSub, Nat.reduceLeDiff, reduceCtorEq, hc, hw, hx, hci, hlk, stD, s1, c1])
    | (with_reducible refine aw_block ?_)
    | (with_reducible refine aw_ret ?_; (try simp only [thenQ, blockQ]); refine aw_ret' ?_; simp only [go_sem, reduceIte, Nat.reduceLT, Nat.reduceEqDiff, Nat.reduceAdd, Nat.reduceMul, Nat.reduceSub, Nat.reduceLeDiff, reduceCtorEq, hc, hw, hx, hci, hlk, stD, s1, c1])
    | (with_reducible refine aw_exit ?_; simp only [thenQ, blockQ, reduceIte, Nat.reduceEqDiff])
    | (with_reducible refine aw_skip ?_; simp only [thenQ, blockQ])
    | (with_reducible refine gate_intro (fun h => ?_) (fun h => ?_) <;> simp only [h, go_sem, reduceIte, Nat.reduceLT, Nat.reduceEqDiff, Nat.reduceAdd, Nat.reduceMul, Nat.reduceSub, Nat.reduceLeDiff, reduceCtorEq, hc, hw, hx, hci, hlk, stD, s1, c1] <;> (try simp only [decide_eq_true_eq, decide_eq_false_iff_not, Bool.not_true] at h))
    | (with_reducible refine chk_in (by kernel_rfl) ?_)
    | (with_reducible refine And.intro (And.intro (by omega) (by omega)) ?_)
    | (with_reducible refine And.intro (by omega) ?_)
    | (refine validP_call rfl (a1, a2, a3) rfl rfl ?_)
    | (rw [get_in]; rotate_left; omega; simp only [go_sem, reduceIte, Nat.reduceLT, Nat.reduceEqDiff, Nat.reduceAdd, Nat.reduceMul, Nat.reduceSub, Nat.reduceLeDiff, reduceCtorEq, hc, hw, hx, hci, hlk, stD, s1, c1])
    | fail)
    · exact ⟨(i + 1, m), weak_in [(100, 100)] (by repeat' (first | trivial | constructor | rfl)) (by repeat' (first | trivial | constructor | rfl)) (by rfl) (by rfl) (by rfl), ⟨by simp only; omega, hI.skip (by rw [hs]; simpa using h)⟩, by simp only; omega⟩
    · have := hI.new (by rw [hs]; simpa using h) (by rw [hs]; exact hlk)
      rw [hs] at this
      refine ⟨(i + 1, putK m (a2, a3) (i, ci != ci)), weak_in [(100, 100)] (by repeat' (first | trivial | constructor | rfl)) (by repeat' (first | trivial | constructor | rfl)) (by rfl) (by rfl) (by rfl), ⟨by simp only; omega, by simpa [idS] using this⟩, by simp only; omega⟩
  | some x =>
    obtain ⟨f, d⟩ := x
    have hf := (hI.ent _ f d (lookK_some hlk)).1
    obtain ⟨⟨b1, b2, b3⟩, hy⟩ : ∃ s, l[f]? = some s := ⟨_, List.getElem?_eq_getElem (by omega)⟩
    have ht : stAt l f = (b1, b2, b3) := by simp [stAt, hy]
    obtain ⟨cf, hcf⟩ : ∃ s, c[f]? = some s := ⟨_, List.getElem?_eq_getElem (by omega)⟩
    have htc : inAt c f = cf := by simp [inAt, hcf]
    repeat' (first
    | (with_reducible refine aw_seq ?_)
    | (with_reducible refine kont_in ?_; simp only [go_sem, reduceIte, Nat.reduceLT, Nat.reduceEqDiff, Nat.reduceAdd, Nat.reduceMul, Nat.reduceSub, Nat.reduceLeDiff, reduceCtorEq, hc, hw, hx, hci, hy, hcf, hlk, stD, seenD, s1, c1])
    | (with_reducible refine dKont_in ?_; simp only [go_sem, reduceIte, Nat.reduceLT, Nat.reduceEqDiff, Nat.reduceAdd, Nat.reduceMul, Nat.reduceSub, Nat.reduceLeDiff, reduceCtorEq, hc, hw, hx, hci, hy, hcf, hlk, stD, seenD, s1, c1])
    | (with_reducible refine aw_drw (by kernel_rfl) hK hD ?_; simp only [go_sem, reduceIte, Nat.reduceLT, Nat.reduceEqDiff, Nat.reduceAdd, Nat.reduceMul, Nat.reduceSub, Nat.reduceLeDiff, reduceCtorEq, hc, hw, hx, hci, hy, hcf, hlk, stD, seenD, s1, c1])
    | (with_reducible refine aw_reg hK ?_; simp only [go_sem, reduceIte, Nat.reduceLT, Nat.reduceEqDiff, Nat.reduceAdd, Nat.reduceMul, Nat.reduceSub, Nat.reduceLeDiff, reduceCtorEq, hc, hw, hx, hci, hy, hcf, hlk, stD, seenD, s1, c1])
    | (with_reducible refine aw_if ?_; simp only [go_sem, reduceIte, Nat.reduceLT, Nat.reduceEqDiff, Nat.reduceAdd, Nat.reduceMul, Nat.reduceSub, Nat.reduceLeDiff, reduceCtorEq, hc, hw, hx, hci, hy, hcf, hlk, stD, seenD, s1, c1])
    | (with_reducible refine aw_block ?_)
    | (with_reducible refine aw_ret ?_; (try simp only [thenQ, blockQ]); refine aw_ret' ?_; simp only [go_sem, reduceIte, Nat.reduceLT, Nat.reduceEqDiff, Nat.reduceAdd, Nat.reduceMul, Nat.reduceSub, Nat.reduceLeDiff, reduceCtorEq, hc, hw, hx, hci, hy, hcf, hlk, stD, seenD, s1, c1])
    | (with_reducible refine aw_exit ?_; simp only [thenQ, blockQ, reduceIte, Nat.reduceEqDiff])
    | (with_reducible refine aw_skip ?_; simp only [thenQ, blockQ])
    | (with_reducible refine gate_intro (fun h => ?_) (fun h => ?_) <;> simp only [h, go_sem, reduceIte, Nat.reduceLT, Nat.reduceEqDiff, Nat.reduceAdd, Nat.reduceMul, Nat.reduceSub, Nat.reduceLeDiff, reduceCtorEq, hc, hw, hx, hci, hy, hcf, hlk, stD, seenD, s1, c1] <;> (try simp only [decide_eq_true_eq, decide_eq_false_iff_not, Bool.not_true] at h))
    | (with_reducible refine chk_in (by kernel_rfl) ?_)
    | (with_reducible refine And.intro (And.intro (by omega) (by omega)) ?_)
    | (with_reducible refine And.intro (by omega) ?_)
    | (refine validP_call rfl (a1, a2, a3) rfl rfl ?_)
    | (rw [get_in]; rotate_left; omega; simp only [go_sem, reduceIte, Nat.reduceLT, Nat.reduceEqDiff, Nat.reduceAdd, Nat.reduceMul, Nat.reduceSub, Nat.reduceLeDiff, reduceCtorEq, hc, hw, hx, hci, hy, hcf, hlk, stD, seenD, s1, c1])
    | fail)
    · exact ⟨(i + 1, m), weak_in [(100, 100)] (by repeat' (first | trivial | constructor | rfl)) (by repeat' (first | trivial | constructor | rfl)) (by rfl) (by rfl) (by rfl), ⟨by simp only; omega, hI.skip (by rw [hs]; simpa using h)⟩, by simp only; omega⟩
    all_goals
      have old := fun d' => hI.old (d' := d') (by rw [hs]; simp_all) (by rw [hs]; exact hlk)
      simp only [hs, ht, hsc, htc, idS] at old
      refine ⟨(i + 1, putK m (a2, a3) (f, _)), weak_in [(100, 100)] (by repeat' (first | trivial | constructor | rfl)) (by repeat' (first | trivial | constructor | rfl)) (by rfl) (by rfl) (by rfl), ⟨by simp only; omega, old _ (by clear old; first | (simp_all; done) | (simp_all; omega))⟩, by simp only; omega⟩
theorem idents_call {K : Kt} (hk : K 37 = some identsC) {np fid : Nat} {M : Mem} {nx : D → Mem → Prop} (l : List St) (c : List Int) {x y : D} (hx : fz M true 4 x = some (.sl 3 (stR l))) (hy : fz M true 4 y = some (.sl 1 (intL c))) (hp : c.length = l.length ∧ l.length ≤ 1000000) (hf : ∀ j, M (fid + j) = none)
    (hn : ∀ m, IdInv l c l.length m → nx (.mp fid) (upd M fid (some (.map (idM m) true)))) : semCall K np 37 [x, y] M fid nx :=
  call_clR hk rfl rfl (l, c) (by simp only [argsV, mapO, hx, hy]; rfl) hp hf (by rintro r ⟨m, h, rfl⟩; exact hn m h)
end Go.Proofs.R1
