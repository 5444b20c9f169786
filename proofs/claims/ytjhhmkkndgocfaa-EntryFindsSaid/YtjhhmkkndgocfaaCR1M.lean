/- stamp.Canonical. -/
import Derived.Test.YtjhhmkkndgocfaaCR1H
import Derived.Test.YtjhhmkkndgocfaaCSort
set_option linter.unusedVariables false
set_option linter.unusedSimpArgs false
set_option maxRecDepth 8000
set_option maxHeartbeats 4000000
namespace Go.Proofs.R1
open Go Go.Abs

theorem dispS_false {s t : St} {x y : Int} (h : dispS s t x y = false) (hi : idS t = idS s) : t = s ∧ y = x := by
  obtain ⟨a, b, c⟩ := s; obtain ⟨d, e, f⟩ := t
  simp only [idS, Prod.mk.injEq] at hi
  simp only [dispS, hi.1, hi.2, beq_self_eq_true, Bool.true_and, Bool.or_eq_false_iff, bne_eq_false_iff_eq] at h
  exact ⟨by simp [hi.1, hi.2, h.1], h.2.symm⟩
theorem dispS_no {s t : St} {x y : Int} (h : idS t = idS s → t = s ∧ y = x) : dispS s t x y = false := by
  obtain ⟨a, b, c⟩ := s; obtain ⟨d, e, f⟩ := t
  by_cases hb : e = b ∧ f = c
  · obtain ⟨h1, h2⟩ := h (by simp [idS, hb.1, hb.2])
    cases h1; subst h2; simp [dispS]
  · simp only [dispS, Bool.and_eq_false_iff, beq_eq_false_iff_ne]
    simp only [Decidable.not_and_iff_or_not] at hb
    exact .inl (hb.imp (fun h => Ne.symm h) (fun h => Ne.symm h))

def firsts (m : List (Ident × Seen)) : List Nat := (m.filter fun p => !p.2.2).map fun p => p.2.1
theorem firsts_mem {m : List (Ident × Seen)} {i : Nat} : i ∈ firsts m ↔ ∃ id, (id, (i, false)) ∈ m := by
  simp only [firsts, List.mem_map, List.mem_filter]
  constructor
  · rintro ⟨⟨id, f, d⟩, ⟨h1, h2⟩, rfl⟩
    simp only [Bool.not_eq_true'] at h2
    subst h2; exact ⟨id, h1⟩
  · rintro ⟨id, h⟩
    exact ⟨_, ⟨h, rfl⟩, rfl⟩
theorem firsts_is {l : List St} {c : List Int} {m : List (Ident × Seen)} (h : IdInv l c l.length m) (i : Nat) : i ∈ firsts m ↔ i < l.length ∧ countsS l c i = true := by
  rw [firsts_mem]
  constructor
  · rintro ⟨id, hm⟩
    obtain ⟨h1, h2, h3, h4, h5⟩ := h.ent id i false hm
    refine ⟨h1, ?_⟩
    simp only [countsS, h2, Bool.true_and, List.all_eq_true, List.mem_range]
    intro k hk
    simp only [Bool.not_eq_true', badAt, Bool.and_eq_false_iff, Bool.or_eq_false_iff, decide_eq_false_iff_not]
    by_cases hv : valS (stAt l k) = true
    · refine .inr ⟨dispS_no fun he => ?_, ?_⟩
      · have : ¬ (stAt l k ≠ stAt l i ∨ inAt c k ≠ inAt c i) := fun hn => by
          have := h5.2 ⟨k, hk, hv, he.trans h3, hn⟩; cases this
        simp only [ne_eq, not_or, Decidable.not_not] at this
        exact this
      · by_cases hlt : k < i
        · exact .inr fun he => h4 k hlt hv (by rw [he, h3])
        · exact .inl hlt
    · exact .inl (by simpa using hv)
  · rintro ⟨h1, h2⟩
    simp only [countsS, Bool.and_eq_true, List.all_eq_true, List.mem_range, Bool.not_eq_true'] at h2
    obtain ⟨hv, hb⟩ := h2
    obtain ⟨⟨f, d⟩, hm⟩ := h.all i h1 hv
    obtain ⟨e1, e2, e3, e4, e5⟩ := h.ent _ f d hm
    have key : ∀ k, k < l.length → valS (stAt l k) = true → idS (stAt l k) = idS (stAt l i) → stAt l k = stAt l i ∧ inAt c k = inAt c i := by
      intro k hk hvk he
      have := hb k hk
      simp only [badAt, hvk, Bool.true_and, Bool.or_eq_false_iff] at this
      exact dispS_false this.1 he
    have hfi : stAt l f = stAt l i ∧ inAt c f = inAt c i := key f e1 e2 e3
    have hd : d = false := by
      cases d with
      | false => rfl
      | true =>
        obtain ⟨k, k1, k2, k3, k4⟩ := e5.1 rfl
        have := key k k1 k2 k3
        rw [this.1, this.2, hfi.1, hfi.2] at k4
        simp at k4
    have hf : f = i := by
      rcases Nat.lt_or_ge i f with h' | h'
      · exact absurd rfl (e4 i h' hv)
      · rcases Nat.lt_or_ge f i with h2 | h2
        · have := hb f e1
          rw [hfi.1] at e2; simp [badAt, e2, h2, hfi.1] at this
        · omega
    subst hd; subst hf
    exact ⟨_, hm⟩
theorem firsts_nodup {l : List St} {c : List Int} {n : Nat} {m : List (Ident × Seen)} (h : IdInv l c n m) : (firsts m).Nodup := by
  have key : ∀ m' : List (Ident × Seen), (∀ p, p ∈ m' → p ∈ m) → (m'.map Prod.fst).Nodup → (firsts m').Nodup := by
    intro m' hs hn
    induction m' with
    | nil => simp [firsts]
    | cons p m' ih =>
      simp only [List.map_cons, List.nodup_cons] at hn
      have ih := ih (fun q hq => hs q (List.mem_cons_of_mem _ hq)) hn.2
      obtain ⟨id, f, d⟩ := p
      cases d with
      | true => simpa [firsts] using ih
      | false =>
        have e : firsts ((id, (f, false)) :: m') = f :: firsts m' := by simp [firsts]
        rw [e, List.nodup_cons]
        refine ⟨fun hm => ?_, ih⟩
        obtain ⟨id2, h2⟩ := firsts_mem.1 hm
        have a := (h.ent id f false (hs _ (by simp))).2.2.1
        have b := (h.ent id2 f false (hs _ (List.mem_cons_of_mem _ h2))).2.2.1
        rw [← a, b] at hn
        exact hn.1 (List.mem_map.2 ⟨_, h2, rfl⟩)
  exact key m (fun _ h => h) h.keys
theorem canon_of {l : List St} {c : List Int} {o : List Nat} (hm : ∀ i, i ∈ o ↔ i < l.length ∧ countsS l c i = true) (hn : o.Nodup) (hs : o.Pairwise (fun i j => ¬ cmpS (stAt l j) (stAt l i) < 0)) : IsCanon l c o := by
  refine ⟨?_, hm⟩
  refine List.Pairwise.imp_of_mem ?_ (List.Pairwise.and hs hn)
  intro i j hi hj ⟨h1, h2⟩
  have h0 : cmpS (stAt l i) (stAt l j) ≠ 0 := fun h => h2 (counts_apart ((hm i).1 hi).1 ((hm j).1 hj).1 ((hm i).1 hi).2 ((hm j).1 hj).2 (cmpS_eq.1 h))
  rw [← cmpS_gt] at h1
  omega

theorem idM_get {m : List (Ident × Seen)} {j : Nat} {k v : D} (h : (idM m)[j]? = some (k, v)) : ∃ p, m[j]? = some p ∧ k = .agg (idD p.1) ∧ v = seenD p.2 := by
  simp only [idM, mapE, List.getElem?_map, Option.map_eq_some_iff] at h
  obtain ⟨p, h1, h2⟩ := h
  cases h2; exact ⟨p, h1, rfl, rfl⟩
theorem idM_erase (m : List (Ident × Seen)) (j : Nat) : (idM m).eraseIdx j = idM (m.eraseIdx j) := by
  simp only [idM, mapE]
  induction m generalizing j with
  | nil => rfl
  | cons p m ih =>
    cases j with
    | zero => rfl
    | succ j => simp only [List.map_cons, List.eraseIdx_cons_succ, ih]
theorem erase_perm {α : Type} {m : List α} {j : Nat} {p : α} (h : m[j]? = some p) : (p :: m.eraseIdx j).Perm m := by
  induction m generalizing j with
  | nil => simp at h
  | cons a m ih =>
    cases j with
    | zero => simp at h; subst h; exact .refl _
    | succ j =>
      simp only [List.getElem?_cons_succ] at h
      simp only [List.eraseIdx_cons_succ]
      exact (List.Perm.swap a p _).trans ((ih h).cons a)
theorem firsts_perm {m m' : List (Ident × Seen)} (h : m.Perm m') : (firsts m).Perm (firsts m') := (h.filter _).map _
theorem firsts_app (m m' : List (Ident × Seen)) : firsts (m ++ m') = firsts m ++ firsts m' := by simp [firsts]
theorem natI_app (m m' : List Nat) : natI (m ++ m') = natI m ++ natI m' := by simp [natI]

theorem canF_nodup (l : List St) (c : List Int) : (canF l c).Nodup :=
  (canF_is l c).1.imp fun {a b} (h : cmpS (stAt l a) (stAt l b) < 0) (he : a = b) => by subst he; exact cmpS_irr _ h
theorem firsts_can {l : List St} {c : List Int} {m : List (Ident × Seen)} (h : IdInv l c l.length m) : (firsts m).Perm (canF l c) :=
  (List.perm_ext_iff_of_nodup (firsts_nodup h) (canF_nodup l c)).2 fun i => by rw [firsts_is h, (canF_is l c).2]
def decN : List D → Nat
  | [.v (.int _ n)] => n.toNat
  | _ => 0

theorem canP_ok : CallOk Try.prog 60 canC := by
  refine ok_of_body_own 37 2 Try.func60 rfl (by decide) Try.ntmps60 (by intro a h; exact ⟨rfl, rfl⟩) (by decide) (by rintro _ a r _ rfl; simp [plainRD, plainD, plainC, intL]) ?_
  rintro ⟨l, c⟩ h1
  simp only [canC] at h1 ⊢
  simp only [initE, initMm, List.length_cons, List.length_nil, Nat.reduceAdd]
  have hK : KOk Try.prog (kOf [(68, identsC), (69, srtC 1 false), (70, byStampC)]) := kOk_cons idents_ok (kOk_sort sortok69 (kOk_cons byStamp_ok kOk_nil))
  by_cases hl : c.length = l.length
  case neg =>
    have hc : ((c.length : Int) != (l.length : Int)) = true := by simp; omega
    repeat' (first
    | (with_reducible refine aw_seq ?_)
    | (with_reducible refine kont_in ?_; simp only [go_sem, reduceIte, Nat.reduceLT, Nat.reduceEqDiff, Nat.reduceAdd, Nat.reduceMul, Nat.reduceSub, Nat.reduceLeDiff, reduceCtorEq, hc])
    | (with_reducible refine dKont_in ?_; simp only [go_sem, reduceIte, Nat.reduceLT, Nat.reduceEqDiff, Nat.reduceAdd, Nat.reduceMul, Nat.reduceSub, Nat.reduceLeDiff, reduceCtorEq, hc])
    | (with_reducible refine aw_drw (by kernel_rfl) hK kDet_nil ?_; simp only [go_sem, reduceIte, Nat.reduceLT, Nat.reduceEqDiff, Nat.reduceAdd, Nat.reduceMul, Nat.reduceSub, Nat.reduceLeDiff, reduceCtorEq, hc])
    | (with_reducible refine aw_reg hK ?_; simp only [go_sem, reduceIte, Nat.reduceLT, Nat.reduceEqDiff, Nat.reduceAdd, Nat.reduceMul, Nat.reduceSub, Nat.reduceLeDiff, reduceCtorEq, hc])
    | (with_reducible refine aw_if ?_; simp only [go_sem, reduceIte, Nat.reduceLT, Nat.reduceEqDiff, Nat.reduceAdd, Nat.reduceMul, Nat.reduceSub, Nat.reduceLeDiff, reduceCtorEq, hc])
    | (with_reducible refine aw_block ?_)
    | (with_reducible refine aw_ret ?_; (try simp only [thenQ, blockQ]); refine aw_ret' ?_; simp only [go_sem, reduceIte, Nat.reduceLT, Nat.reduceEqDiff, Nat.reduceAdd, Nat.reduceMul, Nat.reduceSub, Nat.reduceLeDiff, reduceCtorEq, hc])
    | (with_reducible refine aw_exit ?_; simp only [thenQ, blockQ, reduceIte, Nat.reduceEqDiff])
    | (with_reducible refine aw_skip ?_; simp only [thenQ, blockQ])
    | (with_reducible refine gate_intro (fun h => ?_) (fun h => ?_) <;> simp only [h, go_sem, reduceIte, Nat.reduceLT, Nat.reduceEqDiff, Nat.reduceAdd, Nat.reduceMul, Nat.reduceSub, Nat.reduceLeDiff, reduceCtorEq, hc] <;> (try simp only [decide_eq_true_eq, decide_eq_false_iff_not, Bool.not_true] at h))
    | (with_reducible refine chk_in (by kernel_rfl) ?_)
    | (with_reducible refine And.intro (And.intro (by omega) (by omega)) ?_)
    | (with_reducible refine And.intro (by omega) ?_)
    | (rw [get_in]; rotate_left; omega; simp only [go_sem, reduceIte, Nat.reduceLT, Nat.reduceEqDiff, Nat.reduceAdd, Nat.reduceMul, Nat.reduceSub, Nat.reduceLeDiff, reduceCtorEq, hc])
    | fail)
    refine ⟨_, rfl, ?_, rfl⟩
    simp only [canR, ne_eq, hl, not_false_eq_true, if_true]
    exact .z _ _ _ (.refl _)
  have hc : ((c.length : Int) != (l.length : Int)) = false := by simp; omega
  repeat' (first
    | (with_reducible refine aw_seq ?_)
    | (with_reducible refine kont_in ?_; simp only [go_sem, reduceIte, Nat.reduceLT, Nat.reduceEqDiff, Nat.reduceAdd, Nat.reduceMul, Nat.reduceSub, Nat.reduceLeDiff, reduceCtorEq, hc])
    | (with_reducible refine dKont_in ?_; simp only [go_sem, reduceIte, Nat.reduceLT, Nat.reduceEqDiff, Nat.reduceAdd, Nat.reduceMul, Nat.reduceSub, Nat.reduceLeDiff, reduceCtorEq, hc])
    | (with_reducible refine aw_drw (by kernel_rfl) hK kDet_nil ?_; simp only [go_sem, reduceIte, Nat.reduceLT, Nat.reduceEqDiff, Nat.reduceAdd, Nat.reduceMul, Nat.reduceSub, Nat.reduceLeDiff, reduceCtorEq, hc])
    | (with_reducible refine aw_reg hK ?_; simp only [go_sem, reduceIte, Nat.reduceLT, Nat.reduceEqDiff, Nat.reduceAdd, Nat.reduceMul, Nat.reduceSub, Nat.reduceLeDiff, reduceCtorEq, hc])
    | (with_reducible refine aw_if ?_; simp only [go_sem, reduceIte, Nat.reduceLT, Nat.reduceEqDiff, Nat.reduceAdd, Nat.reduceMul, Nat.reduceSub, Nat.reduceLeDiff, reduceCtorEq, hc])
    | (with_reducible refine aw_block ?_)
    | (with_reducible refine aw_ret ?_; (try simp only [thenQ, blockQ]); refine aw_ret' ?_; simp only [go_sem, reduceIte, Nat.reduceLT, Nat.reduceEqDiff, Nat.reduceAdd, Nat.reduceMul, Nat.reduceSub, Nat.reduceLeDiff, reduceCtorEq, hc])
    | (with_reducible refine aw_exit ?_; simp only [thenQ, blockQ, reduceIte, Nat.reduceEqDiff])
    | (with_reducible refine aw_skip ?_; simp only [thenQ, blockQ])
    | (with_reducible refine gate_intro (fun h => ?_) (fun h => ?_) <;> simp only [h, go_sem, reduceIte, Nat.reduceLT, Nat.reduceEqDiff, Nat.reduceAdd, Nat.reduceMul, Nat.reduceSub, Nat.reduceLeDiff, reduceCtorEq, hc] <;> (try simp only [decide_eq_true_eq, decide_eq_false_iff_not, Bool.not_true] at h))
    | (with_reducible refine chk_in (by kernel_rfl) ?_)
    | (with_reducible refine And.intro (And.intro (by omega) (by omega)) ?_)
    | (with_reducible refine And.intro (by omega) ?_)
    | (refine idents_call rfl l c rfl rfl ⟨hl, h1⟩ (memOf_free rfl) (fun m hm => ?_))
    | (rw [get_in]; rotate_left; omega; simp only [go_sem, reduceIte, Nat.reduceLT, Nat.reduceEqDiff, Nat.reduceAdd, Nat.reduceMul, Nat.reduceSub, Nat.reduceLeDiff, reduceCtorEq, hc])
    | fail)
  refine aw_nil 6 100 1 rfl rfl ?_
  refine aw_rounds (α := List (Ident × Seen) × List (Ident × Seen) × Option (D × D)) (fun x => ⟨envOf [(0, .sl 3 (stR l)), (1, .sl 1 (intL c)), (2, .box 102 0), (4, .nils), (5, i64 0), (6, .row 100), (17, .it 101)], memOf [(100, .row 1 (intL (natI (firsts x.1))) true), (101, .iter (idM x.2.1) x.2.2), (102, .cells [.sl 3 (stR l)])], 200⟩)
    (fun x => (x.1 ++ x.2.1).Perm m) (fun x => x.2.1.length) ([], m, none) (.refl _) (weak_in [(100, 100), (101, _), (102, _)] (by repeat' (first | trivial | constructor | rfl)) (by repeat' (first | trivial | constructor | rfl)) (by rfl) (by rfl) (by rfl)) ?_
  rintro ⟨done, rem, last⟩ hp
  simp only at hp ⊢
  have hfl : (firsts done).length ≤ 1000000 := by
    have e1 := (firsts_perm hp).length_eq
    rw [firsts_app, List.length_append] at e1
    have e2 := (firsts_can hm).length_eq
    have e3 := canF_len l c
    omega
  repeat' (first
    | (with_reducible refine aw_seq ?_)
    | (with_reducible refine kont_in ?_; simp only [go_sem, reduceIte, Nat.reduceLT, Nat.reduceEqDiff, Nat.reduceAdd, Nat.reduceMul, Nat.reduceSub, Nat.reduceLeDiff, reduceCtorEq])
    | (with_reducible refine dKont_in ?_; simp only [go_sem, reduceIte, Nat.reduceLT, Nat.reduceEqDiff, Nat.reduceAdd, Nat.reduceMul, Nat.reduceSub, Nat.reduceLeDiff, reduceCtorEq])
    | (with_reducible refine aw_drw (by kernel_rfl) hK kDet_nil ?_; simp only [go_sem, reduceIte, Nat.reduceLT, Nat.reduceEqDiff, Nat.reduceAdd, Nat.reduceMul, Nat.reduceSub, Nat.reduceLeDiff, reduceCtorEq])
    | (with_reducible refine aw_reg hK ?_; simp only [go_sem, reduceIte, Nat.reduceLT, Nat.reduceEqDiff, Nat.reduceAdd, Nat.reduceMul, Nat.reduceSub, Nat.reduceLeDiff, reduceCtorEq])
    | (with_reducible refine aw_if ?_; simp only [go_sem, reduceIte, Nat.reduceLT, Nat.reduceEqDiff, Nat.reduceAdd, Nat.reduceMul, Nat.reduceSub, Nat.reduceLeDiff, reduceCtorEq])
    | (with_reducible refine aw_block ?_)
    | (with_reducible refine aw_ret ?_; (try simp only [thenQ, blockQ]); refine aw_ret' ?_; simp only [go_sem, reduceIte, Nat.reduceLT, Nat.reduceEqDiff, Nat.reduceAdd, Nat.reduceMul, Nat.reduceSub, Nat.reduceLeDiff, reduceCtorEq])
    | (with_reducible refine aw_exit ?_; simp only [thenQ, blockQ, reduceIte, Nat.reduceEqDiff])
    | (with_reducible refine aw_skip ?_; simp only [thenQ, blockQ])
    | (with_reducible refine gate_intro (fun h => ?_) (fun h => ?_) <;> simp only [h, go_sem, reduceIte, Nat.reduceLT, Nat.reduceEqDiff, Nat.reduceAdd, Nat.reduceMul, Nat.reduceSub, Nat.reduceLeDiff, reduceCtorEq] <;> (try simp only [decide_eq_true_eq, decide_eq_false_iff_not, Bool.not_true] at h))
    | (with_reducible refine chk_in (by kernel_rfl) ?_)
    | (with_reducible refine And.intro (And.intro (by omega) (by omega)) ?_)
    | (with_reducible refine And.intro (by omega) ?_)
    | (rw [get_in]; rotate_left; omega; simp only [go_sem, reduceIte, Nat.reduceLT, Nat.reduceEqDiff, Nat.reduceAdd, Nat.reduceMul, Nat.reduceSub, Nat.reduceLeDiff, reduceCtorEq])
    | fail)
  refine ⟨fun h => ?_, fun j k v hj => ?_⟩
  · repeat' (first
    | (with_reducible refine aw_seq ?_)
    | (with_reducible refine kont_in ?_; simp only [go_sem, reduceIte, Nat.reduceLT, Nat.reduceEqDiff, Nat.reduceAdd, Nat.reduceMul, Nat.reduceSub, Nat.reduceLeDiff, reduceCtorEq])
    | (with_reducible refine dKont_in ?_; simp only [go_sem, reduceIte, Nat.reduceLT, Nat.reduceEqDiff, Nat.reduceAdd, Nat.reduceMul, Nat.reduceSub, Nat.reduceLeDiff, reduceCtorEq])
    | (with_reducible refine aw_drw (by kernel_rfl) hK kDet_nil ?_; simp only [go_sem, reduceIte, Nat.reduceLT, Nat.reduceEqDiff, Nat.reduceAdd, Nat.reduceMul, Nat.reduceSub, Nat.reduceLeDiff, reduceCtorEq])
    | (with_reducible refine aw_reg hK ?_; simp only [go_sem, reduceIte, Nat.reduceLT, Nat.reduceEqDiff, Nat.reduceAdd, Nat.reduceMul, Nat.reduceSub, Nat.reduceLeDiff, reduceCtorEq])
    | (with_reducible refine aw_if ?_; simp only [go_sem, reduceIte, Nat.reduceLT, Nat.reduceEqDiff, Nat.reduceAdd, Nat.reduceMul, Nat.reduceSub, Nat.reduceLeDiff, reduceCtorEq])
    | (with_reducible refine aw_block ?_)
    | (with_reducible refine aw_ret ?_; (try simp only [thenQ, blockQ]); refine aw_ret' ?_; simp only [go_sem, reduceIte, Nat.reduceLT, Nat.reduceEqDiff, Nat.reduceAdd, Nat.reduceMul, Nat.reduceSub, Nat.reduceLeDiff, reduceCtorEq])
    | (with_reducible refine aw_exit ?_; simp only [thenQ, blockQ, reduceIte, Nat.reduceEqDiff])
    | (with_reducible refine aw_skip ?_; simp only [thenQ, blockQ])
    | (with_reducible refine gate_intro (fun h => ?_) (fun h => ?_) <;> simp only [h, go_sem, reduceIte, Nat.reduceLT, Nat.reduceEqDiff, Nat.reduceAdd, Nat.reduceMul, Nat.reduceSub, Nat.reduceLeDiff, reduceCtorEq] <;> (try simp only [decide_eq_true_eq, decide_eq_false_iff_not, Bool.not_true] at h))
    | (with_reducible refine chk_in (by kernel_rfl) ?_)
    | (with_reducible refine And.intro (And.intro (by omega) (by omega)) ?_)
    | (with_reducible refine And.intro (by omega) ?_)
    | (rw [get_in]; rotate_left; omega; simp only [go_sem, reduceIte, Nat.reduceLT, Nat.reduceEqDiff, Nat.reduceAdd, Nat.reduceMul, Nat.reduceSub, Nat.reduceLeDiff, reduceCtorEq])
    | fail)
    all_goals
      rename_i he
      have he : rem = [] := by
        simpa [idM, mapE] using he
      subst he
      rw [List.append_nil] at hp
      have hcan := (firsts_perm hp).trans (firsts_can hm)
      have hcl := hcan.length_eq
    · refine ⟨_, rfl, ?_, rfl⟩
      have h' : 300 < (canF l c).length := by omega
      simp only [canR, ne_eq, hl, not_true_eq_false, if_false, h', if_true]
      exact .z _ _ _ (.refl _)
    · refine sort_call (fun i : Nat => [i64 i]) decN (fun a => by simp [decN]) (firsts done) (fun i j => cmpS (stAt l i) (stAt l j)) rfl (by simp only [memOf_cons, if_true, intL, natI, List.map_map]; rfl) rfl rfl rfl (by decide) (by omega) (fun x _ => cmpS_irr _) (fun x y z _ _ _ h k => cmpS_trans h k) (fun x y z _ _ _ h k => cmpS_ntrans h k)
        (fun x y hx hy => ⟨(l, x, y), rfl, ⟨((canF_is l c).2 x |>.1 (hcan.mem_iff.1 hx)).1, ((canF_is l c).2 y |>.1 (hcan.mem_iff.1 hy)).1⟩, fun r hr => hr⟩) (fun o ho hs => ?_)
      have hoc : o = canF l c := canF_of (canon_of (fun i => by rw [(ho.trans hcan).mem_iff, (canF_is l c).2]) ((ho.trans hcan).nodup_iff.2 (canF_nodup l c)) hs)
      subst hoc
      simp only [upd_memOf]
      repeat' (first
    | (with_reducible refine aw_seq ?_)
    | (with_reducible refine kont_in ?_; simp only [go_sem, reduceIte, Nat.reduceLT, Nat.reduceEqDiff, Nat.reduceAdd, Nat.reduceMul, Nat.reduceSub, Nat.reduceLeDiff, reduceCtorEq])
    | (with_reducible refine dKont_in ?_; simp only [go_sem, reduceIte, Nat.reduceLT, Nat.reduceEqDiff, Nat.reduceAdd, Nat.reduceMul, Nat.reduceSub, Nat.reduceLeDiff, reduceCtorEq])
    | (with_reducible refine aw_drw (by kernel_rfl) hK kDet_nil ?_; simp only [go_sem, reduceIte, Nat.reduceLT, Nat.reduceEqDiff, Nat.reduceAdd, Nat.reduceMul, Nat.reduceSub, Nat.reduceLeDiff, reduceCtorEq])
    | (with_reducible refine aw_reg hK ?_; simp only [go_sem, reduceIte, Nat.reduceLT, Nat.reduceEqDiff, Nat.reduceAdd, Nat.reduceMul, Nat.reduceSub, Nat.reduceLeDiff, reduceCtorEq])
    | (with_reducible refine aw_if ?_; simp only [go_sem, reduceIte, Nat.reduceLT, Nat.reduceEqDiff, Nat.reduceAdd, Nat.reduceMul, Nat.reduceSub, Nat.reduceLeDiff, reduceCtorEq])
    | (with_reducible refine aw_block ?_)
    | (with_reducible refine aw_ret ?_; (try simp only [thenQ, blockQ]); refine aw_ret' ?_; simp only [go_sem, reduceIte, Nat.reduceLT, Nat.reduceEqDiff, Nat.reduceAdd, Nat.reduceMul, Nat.reduceSub, Nat.reduceLeDiff, reduceCtorEq])
    | (with_reducible refine aw_exit ?_; simp only [thenQ, blockQ, reduceIte, Nat.reduceEqDiff])
    | (with_reducible refine aw_skip ?_; simp only [thenQ, blockQ])
    | (with_reducible refine gate_intro (fun h => ?_) (fun h => ?_) <;> simp only [h, go_sem, reduceIte, Nat.reduceLT, Nat.reduceEqDiff, Nat.reduceAdd, Nat.reduceMul, Nat.reduceSub, Nat.reduceLeDiff, reduceCtorEq] <;> (try simp only [decide_eq_true_eq, decide_eq_false_iff_not, Bool.not_true] at h))
    | (with_reducible refine chk_in (by kernel_rfl) ?_)
    | (with_reducible refine And.intro (And.intro (by omega) (by omega)) ?_)
    | (with_reducible refine And.intro (by omega) ?_)
    | (rw [get_in]; rotate_left; omega; simp only [go_sem, reduceIte, Nat.reduceLT, Nat.reduceEqDiff, Nat.reduceAdd, Nat.reduceMul, Nat.reduceSub, Nat.reduceLeDiff, reduceCtorEq])
    | fail)
      refine ⟨_, rfl, ?_, rfl⟩
      have h' : ¬ 300 < (canF l c).length := by omega
      simp only [canR, ne_eq, hl, not_true_eq_false, if_false, h', intL, natI, List.map_map]
      exact .refl _
  · obtain ⟨⟨id, f, d⟩, hr, rfl, rfl⟩ := idM_get hj
    have hperm : ((done ++ [(id, (f, d))]) ++ rem.eraseIdx j).Perm m := by
      refine List.Perm.trans ?_ hp
      rw [List.append_assoc]
      exact (erase_perm hr).append_left done
    have hlen : (rem.eraseIdx j).length < rem.length := by
      have := (erase_perm hr).length_eq
      simp at this; omega
    cases d with
    | true =>
      repeat' (first
    | (with_reducible refine aw_seq ?_)
    | (with_reducible refine kont_in ?_; simp only [go_sem, reduceIte, Nat.reduceLT, Nat.reduceEqDiff, Nat.reduceAdd, Nat.reduceMul, Nat.reduceSub, Nat.reduceLeDiff, reduceCtorEq, seenD, idM_erase])
    | (with_reducible refine dKont_in ?_; simp only [go_sem, reduceIte, Nat.reduceLT, Nat.reduceEqDiff, Nat.reduceAdd, Nat.reduceMul, Nat.reduceSub, Nat.reduceLeDiff, reduceCtorEq, seenD, idM_erase])
    | (with_reducible refine aw_drw (by kernel_rfl) hK kDet_nil ?_; simp only [go_sem, reduceIte, Nat.reduceLT, Nat.reduceEqDiff, Nat.reduceAdd, Nat.reduceMul, Nat.reduceSub, Nat.reduceLeDiff, reduceCtorEq, seenD, idM_erase])
    | (with_reducible refine aw_reg hK ?_; simp only [go_sem, reduceIte, Nat.reduceLT, Nat.reduceEqDiff, Nat.reduceAdd, Nat.reduceMul, Nat.reduceSub, Nat.reduceLeDiff, reduceCtorEq, seenD, idM_erase])
    | (with_reducible refine aw_if ?_; simp only [go_sem, reduceIte, Nat.reduceLT, Nat.reduceEqDiff, Nat.reduceAdd, Nat.reduceMul, Nat.reduceSub, Nat.reduceLeDiff, reduceCtorEq, seenD, idM_erase])
    | (with_reducible refine aw_block ?_)
    | (with_reducible refine aw_ret ?_; (try simp only [thenQ, blockQ]); refine aw_ret' ?_; simp only [go_sem, reduceIte, Nat.reduceLT, Nat.reduceEqDiff, Nat.reduceAdd, Nat.reduceMul, Nat.reduceSub, Nat.reduceLeDiff, reduceCtorEq, seenD, idM_erase])
    | (with_reducible refine aw_exit ?_; simp only [thenQ, blockQ, reduceIte, Nat.reduceEqDiff])
    | (with_reducible refine aw_skip ?_; simp only [thenQ, blockQ])
    | (with_reducible refine gate_intro (fun h => ?_) (fun h => ?_) <;> simp only [h, go_sem, reduceIte, Nat.reduceLT, Nat.reduceEqDiff, Nat.reduceAdd, Nat.reduceMul, Nat.reduceSub, Nat.reduceLeDiff, reduceCtorEq, seenD, idM_erase] <;> (try simp only [decide_eq_true_eq, decide_eq_false_iff_not, Bool.not_true] at h))
    | (with_reducible refine chk_in (by kernel_rfl) ?_)
    | (with_reducible refine And.intro (And.intro (by omega) (by omega)) ?_)
    | (with_reducible refine And.intro (by omega) ?_)
    | (rw [get_in]; rotate_left; omega; simp only [go_sem, reduceIte, Nat.reduceLT, Nat.reduceEqDiff, Nat.reduceAdd, Nat.reduceMul, Nat.reduceSub, Nat.reduceLeDiff, reduceCtorEq, seenD, idM_erase])
    | fail)
      have e : firsts (done ++ [(id, (f, true))]) = firsts done := by simp [firsts]
      refine ⟨(done ++ [(id, (f, true))], rem.eraseIdx j, some (.agg (idD id), .agg [i64 f, bl true])), ?_, hperm, hlen⟩
      simp only [e]
      exact weak_in [(100, 100), (101, _), (102, _)] (by repeat' (first | trivial | constructor | rfl)) (by repeat' (first | trivial | constructor | rfl)) (by rfl) (by rfl) (by rfl)
    | false =>
      repeat' (first
    | (with_reducible refine aw_seq ?_)
    | (with_reducible refine kont_in ?_; simp only [go_sem, reduceIte, Nat.reduceLT, Nat.reduceEqDiff, Nat.reduceAdd, Nat.reduceMul, Nat.reduceSub, Nat.reduceLeDiff, reduceCtorEq, seenD, idM_erase])
    | (with_reducible refine dKont_in ?_; simp only [go_sem, reduceIte, Nat.reduceLT, Nat.reduceEqDiff, Nat.reduceAdd, Nat.reduceMul, Nat.reduceSub, Nat.reduceLeDiff, reduceCtorEq, seenD, idM_erase])
    | (with_reducible refine aw_drw (by kernel_rfl) hK kDet_nil ?_; simp only [go_sem, reduceIte, Nat.reduceLT, Nat.reduceEqDiff, Nat.reduceAdd, Nat.reduceMul, Nat.reduceSub, Nat.reduceLeDiff, reduceCtorEq, seenD, idM_erase])
    | (with_reducible refine aw_reg hK ?_; simp only [go_sem, reduceIte, Nat.reduceLT, Nat.reduceEqDiff, Nat.reduceAdd, Nat.reduceMul, Nat.reduceSub, Nat.reduceLeDiff, reduceCtorEq, seenD, idM_erase])
    | (with_reducible refine aw_if ?_; simp only [go_sem, reduceIte, Nat.reduceLT, Nat.reduceEqDiff, Nat.reduceAdd, Nat.reduceMul, Nat.reduceSub, Nat.reduceLeDiff, reduceCtorEq, seenD, idM_erase])
    | (with_reducible refine aw_block ?_)
    | (with_reducible refine aw_ret ?_; (try simp only [thenQ, blockQ]); refine aw_ret' ?_; simp only [go_sem, reduceIte, Nat.reduceLT, Nat.reduceEqDiff, Nat.reduceAdd, Nat.reduceMul, Nat.reduceSub, Nat.reduceLeDiff, reduceCtorEq, seenD, idM_erase])
    | (with_reducible refine aw_exit ?_; simp only [thenQ, blockQ, reduceIte, Nat.reduceEqDiff])
    | (with_reducible refine aw_skip ?_; simp only [thenQ, blockQ])
    | (with_reducible refine gate_intro (fun h => ?_) (fun h => ?_) <;> simp only [h, go_sem, reduceIte, Nat.reduceLT, Nat.reduceEqDiff, Nat.reduceAdd, Nat.reduceMul, Nat.reduceSub, Nat.reduceLeDiff, reduceCtorEq, seenD, idM_erase] <;> (try simp only [decide_eq_true_eq, decide_eq_false_iff_not, Bool.not_true] at h))
    | (with_reducible refine chk_in (by kernel_rfl) ?_)
    | (with_reducible refine And.intro (And.intro (by omega) (by omega)) ?_)
    | (with_reducible refine And.intro (by omega) ?_)
    | (rw [get_in]; rotate_left; omega; simp only [go_sem, reduceIte, Nat.reduceLT, Nat.reduceEqDiff, Nat.reduceAdd, Nat.reduceMul, Nat.reduceSub, Nat.reduceLeDiff, reduceCtorEq, seenD, idM_erase])
    | fail)
      have e : natI (firsts (done ++ [(id, (f, false))])) = natI (firsts done) ++ [(f : Int)] := by simp [firsts, natI]
      refine ⟨(done ++ [(id, (f, false))], rem.eraseIdx j, some (.agg (idD id), .agg [i64 f, bl false])), ?_, hperm, hlen⟩
      simp only [e]
      exact weak_in [(100, _), (101, _), (102, _)] (by repeat' (first | trivial | constructor | rfl)) (by repeat' (first | trivial | constructor | rfl)) (by rfl) (by rfl) (by rfl)
theorem canP_call {K : Kt} (hk : K 60 = some canC) {np fid : Nat} {M : Mem} {nx : D → Mem → Prop} (l : List St) (c : List Int) {x y : D} (hx : fz M true 4 x = some (.sl 3 (stR l))) (hy : fz M true 4 y = some (.sl 1 (intL c))) (hp : l.length ≤ 1000000) (hf : ∀ j, M (fid + j) = none)
    (hn : nx (.tup [.row fid, i64 (canR l c).2]) (upd M fid (some (.row 1 (intL (canR l c).1) true)))) : semCall K np 60 [x, y] M fid nx :=
  call_clR hk rfl rfl (l, c) (by simp only [argsV, mapO, hx, hy]; rfl) hp hf (by rintro r rfl; exact hn)
end Go.Proofs.R1

/- ref.Canonical, Known. -/
set_option linter.unusedVariables false
set_option linter.unusedSimpArgs false
set_option maxRecDepth 8000
set_option maxHeartbeats 4000000
namespace Go.Proofs.R1
open Go Go.Abs

def knownR (l : List St) (c : List Int) (n : Int) : List Int × Int :=
  if c.length ≠ l.length then ([], 1) else if n < 0 ∨ (l.length : Int) < n then ([], 2) else canR (l.take n.toNat) (c.take n.toNat)
abbrev knownC : Con where
  α := List St × List Int × Int
  kinds := [false, false, false]
  args := fun a => [.d (.sl 3 (stR a.1)), .d (.sl 1 (intL a.2.1)), .d (i64 a.2.2)]
  pre := fun a => a.1.length ≤ 1000000
  post := fun a r => r = ⟨[.own 1 (intL (knownR a.1 a.2.1 a.2.2).1), .d (i64 (knownR a.1 a.2.1 a.2.2).2)], []⟩
  clean := true
theorem counts_call {K : Kt} (hk : K 61 = some countsC) {np fid : Nat} {M : Mem} {nx : D → Mem → Prop} (l : List St) (c : List Int) (i : Nat) {x y : D} (hx : fz M true 4 x = some (.sl 3 (stR l))) (hy : fz M true 4 y = some (.sl 1 (intL c))) (hp : i < l.length ∧ c.length = l.length ∧ l.length ≤ 9223372036854775806) (hf : M fid = none) (hn : nx (bl (countsS l c i)) M) : semCall K np 61 [x, y, i64 i] M fid nx :=
  call_fn hk rfl rfl (fun _ _ h => h) (l, c, i) (by simp only [argsV, mapO, hx, hy]; rfl) hp hf hn
theorem rcompare_call {K : Kt} (hk : K 62 = some compareC) {np fid : Nat} {M : Mem} {nx : D → Mem → Prop} (s t : St) {d e : D} (hd : d = .agg (stD s)) (he : e = .agg (stD t)) (hf : M fid = none) (hn : nx (i64 (cmpS s t)) M) : semCall K np 62 [d, e] M fid nx := by
  subst hd; subst he
  exact call_fn hk rfl rfl (fun _ _ h => h) (s, t) rfl trivial hf hn
@[go_sem] theorem natI_get (o : List Nat) (k : Nat) : (natI o)[k]? = (o[k]?).map fun (i : Nat) => (i : Int) := by simp [natI]

/-- The canonical list of the first i events. -/
def Pre (l : List St) (c : List Int) (n : Nat) (o : List Nat) : Prop := o.Pairwise (fun i j => cmpS (stAt l i) (stAt l j) < 0) ∧ ∀ i, i ∈ o ↔ i < n ∧ countsS l c i = true
theorem Pre.skip {l c n o} (h : Pre l c n o) (hc : countsS l c n = false) : Pre l c (n + 1) o := by
  refine ⟨h.1, fun i => (h.2 i).trans ⟨fun ⟨a, b⟩ => ⟨by omega, b⟩, fun ⟨a, b⟩ => ⟨?_, b⟩⟩⟩
  rcases Nat.lt_or_ge i n with h' | h'
  · exact h'
  · have : i = n := by omega
    subst this; rw [hc] at b; cases b
theorem Pre.ins {l c n} {o : List Nat} {k : Nat} (h : Pre l c n o) (hn : n < l.length) (hc : countsS l c n = true) (hk : k ≤ o.length) (hhi : ∀ j x, k ≤ j → o[j]? = some x → 0 < cmpS (stAt l x) (stAt l n)) (hlo : ∀ x, 0 < k → o[k - 1]? = some x → ¬ 0 < cmpS (stAt l x) (stAt l n)) :
    Pre l c (n + 1) (o.take k ++ [n] ++ o.drop k) := by
  obtain ⟨hp, hm⟩ := h
  have hpa : (o.take k ++ o.drop k).Pairwise (fun i j => cmpS (stAt l i) (stAt l j) < 0) := by rw [List.take_append_drop]; exact hp
  rw [List.pairwise_append] at hpa
  have le : ∀ y, y ∈ o → ¬ 0 < cmpS (stAt l y) (stAt l n) → cmpS (stAt l y) (stAt l n) < 0 := fun y hy h => by
    have := (hm y).1 hy
    have h0 : cmpS (stAt l y) (stAt l n) ≠ 0 := fun h => by
      have := counts_apart (by omega) hn this.2 hc (cmpS_eq.1 h); omega
    omega
  have lo : ∀ x, x ∈ o.take k → cmpS (stAt l x) (stAt l n) < 0 := by
    intro x hx
    obtain ⟨j, hj, rfl⟩ := List.mem_iff_getElem.1 hx
    rw [List.getElem_take]
    simp only [List.length_take] at hj
    have hkl : k - 1 < o.length := by omega
    have h1 := le _ (List.getElem_mem hkl) (hlo _ (by omega) (List.getElem?_eq_getElem hkl))
    by_cases e : j = k - 1
    · subst e; exact h1
    · exact cmpS_trans (List.pairwise_iff_getElem.1 hp j (k - 1) (by omega) hkl (by omega)) h1
  have hi : ∀ x, x ∈ o.drop k → cmpS (stAt l n) (stAt l x) < 0 := by
    intro x hx
    obtain ⟨j, hj, rfl⟩ := List.mem_iff_getElem.1 hx
    rw [List.getElem_drop]
    simp only [List.length_drop] at hj
    rw [← cmpS_gt]
    exact hhi (k + j) _ (by omega) (List.getElem?_eq_getElem (by omega))
  refine ⟨?_, fun i => ?_⟩
  · rw [List.pairwise_append, List.pairwise_append]
    refine ⟨⟨hpa.1, by simp, fun a ha b hb => ?_⟩, hpa.2.1, fun a ha b hb => ?_⟩
    · simp at hb; subst hb; exact lo a ha
    · rcases List.mem_append.1 ha with ha | ha
      · exact hpa.2.2 a ha b hb
      · simp at ha; subst ha; exact hi b hb
  · have e : i ∈ o ↔ i ∈ o.take k ∨ i ∈ o.drop k := by rw [← List.mem_append, List.take_append_drop]
    have := hm i
    rw [e] at this
    simp only [List.mem_append, List.mem_singleton]
    constructor
    · rintro ((h | h) | h)
      · have := this.1 (.inl h); exact ⟨by omega, this.2⟩
      · subst h; exact ⟨by omega, hc⟩
      · have := this.1 (.inr h); exact ⟨by omega, this.2⟩
    · rintro ⟨h1, h2⟩
      by_cases e : i = n
      · exact .inl (.inr e)
      · exact (this.2 ⟨by omega, h2⟩).imp .inl id

theorem pre_len {l c n} {o : List Nat} (h : Pre l c n o) : o.length ≤ n := by
  have hn : o.Nodup := h.1.imp fun {a b} (h : cmpS (stAt l a) (stAt l b) < 0) (he : a = b) => by subst he; exact cmpS_irr _ h
  have hp : o.Perm ((List.range n).filter fun i => countsS l c i) := (List.perm_ext_iff_of_nodup hn (List.nodup_range.filter _)).2 fun i => by rw [h.2]; simp
  have := hp.length_eq
  have h2 := List.length_filter_le (fun i => countsS l c i) (List.range n)
  simp at h2; omega
theorem canR_ok : CallOk Try.prog 40 canC := by
  refine ok_of_body_own 67 2 Try.func40 rfl (by decide) Try.ntmps40 (by intro a h; exact ⟨rfl, rfl⟩) (by decide) (by rintro _ a r _ rfl; simp [plainRD, plainD, plainC, intL]) ?_
  rintro ⟨l, c⟩ h1
  simp only [canC] at h1 ⊢
  simp only [initE, initMm, List.length_cons, List.length_nil, Nat.reduceAdd]
  have hK : KOk Try.prog (kOf [(61, countsC), (62, compareC)]) := kOk_cons counts_ok (kOk_cons rcompare_ok kOk_nil)
  have hD : KDet (kOf [(61, countsC), (62, compareC)]) := kDet_cons (fun _ _ => ⟨_, rfl, by simp, fun _ h => h⟩) (kDet_cons (fun _ _ => ⟨_, rfl, by simp, fun _ h => h⟩) kDet_nil)
  have s1 : compareC.srt = none := rfl
  have c1 : compareC.clean = true := rfl
  by_cases hl : c.length = l.length
  case neg =>
    have hc : ((c.length : Int) != (l.length : Int)) = true := by simp; omega
    repeat' (first
    | (with_reducible refine aw_seq ?_)
    | (with_reducible refine kont_in ?_; simp only [go_sem, reduceIte, Nat.reduceLT, Nat.reduceEqDiff, Nat.reduceAdd, Nat.reduceMul, Nat.reduceSub, Nat.reduceLeDiff, reduceCtorEq, hc])
    | (with_reducible refine dKont_in ?_; simp only [go_sem, reduceIte, Nat.reduceLT, Nat.reduceEqDiff, Nat.reduceAdd, Nat.reduceMul, Nat.reduceSub, Nat.reduceLeDiff, reduceCtorEq, hc])
    | (with_reducible refine aw_drw (by kernel_rfl) hK kDet_nil ?_; simp only [go_sem, reduceIte, Nat.reduceLT, Nat.reduceEqDiff, Nat.reduceAdd, Nat.reduceMul, Nat.reduceSub, Nat.reduceLeDiff, reduceCtorEq, hc])
    | (with_reducible refine aw_reg hK ?_; simp only [go_sem, reduceIte, Nat.reduceLT, Nat.reduceEqDiff, Nat.reduceAdd, Nat.reduceMul, Nat.reduceSub, Nat.reduceLeDiff, reduceCtorEq, hc])
    | (with_reducible refine aw_if ?_; simp only [go_sem, reduceIte, Nat.reduceLT, Nat.reduceEqDiff, Nat.reduceAdd, Nat.reduceMul, Nat.reduceSub, Nat.reduceLeDiff, reduceCtorEq, hc])
    | (with_reducible refine aw_block ?_)
    | (with_reducible refine aw_ret ?_; (try simp only [thenQ, blockQ]); refine aw_ret' ?_; simp only [go_sem, reduceIte, Nat.reduceLT, Nat.reduceEqDiff, Nat.reduceAdd, Nat.reduceMul, Nat.reduceSub, Nat.reduceLeDiff, reduceCtorEq, hc])
    | (with_reducible refine aw_exit ?_; simp only [thenQ, blockQ, reduceIte, Nat.reduceEqDiff])
    | (with_reducible refine aw_skip ?_; simp only [thenQ, blockQ])
    | (with_reducible refine gate_intro (fun h => ?_) (fun h => ?_) <;> simp only [h, go_sem, reduceIte, Nat.reduceLT, Nat.reduceEqDiff, Nat.reduceAdd, Nat.reduceMul, Nat.reduceSub, Nat.reduceLeDiff, reduceCtorEq, hc] <;> (try simp only [decide_eq_true_eq, decide_eq_false_iff_not, Bool.not_true] at h))
    | (with_reducible refine chk_in (by kernel_rfl) ?_)
    | (with_reducible refine And.intro (And.intro (by omega) (by omega)) ?_)
    | (with_reducible refine And.intro (by omega) ?_)
    | (rw [get_in]; rotate_left; omega; simp only [go_sem, reduceIte, Nat.reduceLT, Nat.reduceEqDiff, Nat.reduceAdd, Nat.reduceMul, Nat.reduceSub, Nat.reduceLeDiff, reduceCtorEq, hc])
    | fail)
    refine ⟨_, rfl, ?_, rfl⟩
    simp only [canR, ne_eq, hl, not_false_eq_true, if_true]
    exact .z _ _ _ (.refl _)
  have hc : ((c.length : Int) != (l.length : Int)) = false := by simp; omega
  repeat' (first
    | (with_reducible refine aw_seq ?_)
    | (with_reducible refine kont_in ?_; simp only [go_sem, reduceIte, Nat.reduceLT, Nat.reduceEqDiff, Nat.reduceAdd, Nat.reduceMul, Nat.reduceSub, Nat.reduceLeDiff, reduceCtorEq, hc])
    | (with_reducible refine dKont_in ?_; simp only [go_sem, reduceIte, Nat.reduceLT, Nat.reduceEqDiff, Nat.reduceAdd, Nat.reduceMul, Nat.reduceSub, Nat.reduceLeDiff, reduceCtorEq, hc])
    | (with_reducible refine aw_drw (by kernel_rfl) hK kDet_nil ?_; simp only [go_sem, reduceIte, Nat.reduceLT, Nat.reduceEqDiff, Nat.reduceAdd, Nat.reduceMul, Nat.reduceSub, Nat.reduceLeDiff, reduceCtorEq, hc])
    | (with_reducible refine aw_reg hK ?_; simp only [go_sem, reduceIte, Nat.reduceLT, Nat.reduceEqDiff, Nat.reduceAdd, Nat.reduceMul, Nat.reduceSub, Nat.reduceLeDiff, reduceCtorEq, hc])
    | (with_reducible refine aw_if ?_; simp only [go_sem, reduceIte, Nat.reduceLT, Nat.reduceEqDiff, Nat.reduceAdd, Nat.reduceMul, Nat.reduceSub, Nat.reduceLeDiff, reduceCtorEq, hc])
    | (with_reducible refine aw_block ?_)
    | (with_reducible refine aw_ret ?_; (try simp only [thenQ, blockQ]); refine aw_ret' ?_; simp only [go_sem, reduceIte, Nat.reduceLT, Nat.reduceEqDiff, Nat.reduceAdd, Nat.reduceMul, Nat.reduceSub, Nat.reduceLeDiff, reduceCtorEq, hc])
    | (with_reducible refine aw_exit ?_; simp only [thenQ, blockQ, reduceIte, Nat.reduceEqDiff])
    | (with_reducible refine aw_skip ?_; simp only [thenQ, blockQ])
    | (with_reducible refine gate_intro (fun h => ?_) (fun h => ?_) <;> simp only [h, go_sem, reduceIte, Nat.reduceLT, Nat.reduceEqDiff, Nat.reduceAdd, Nat.reduceMul, Nat.reduceSub, Nat.reduceLeDiff, reduceCtorEq, hc] <;> (try simp only [decide_eq_true_eq, decide_eq_false_iff_not, Bool.not_true] at h))
    | (with_reducible refine chk_in (by kernel_rfl) ?_)
    | (with_reducible refine And.intro (And.intro (by omega) (by omega)) ?_)
    | (with_reducible refine And.intro (by omega) ?_)
    | (rw [get_in]; rotate_left; omega; simp only [go_sem, reduceIte, Nat.reduceLT, Nat.reduceEqDiff, Nat.reduceAdd, Nat.reduceMul, Nat.reduceSub, Nat.reduceLeDiff, reduceCtorEq, hc])
    | fail)
  refine aw_nil 6 100 1 rfl rfl ?_
  refine aw_rounds (α := Nat × List Nat) (fun x => ⟨envOf [(0, .sl 3 (stR l)), (1, .sl 1 (intL c)), (4, .nils), (5, i64 0), (6, .row 100), (7, i64 x.1)], memOf [(100, .row 1 (intL (natI x.2)) true)], 200⟩)
    (fun x => x.1 ≤ l.length ∧ Pre l c x.1 x.2) (fun x => l.length - x.1) (0, []) ⟨Nat.zero_le _, by constructor <;> simp⟩ (weak_in [(100, 100)] (by repeat' (first | trivial | constructor | rfl)) (by repeat' (first | trivial | constructor | rfl)) (by rfl) (by rfl) (by rfl)) ?_
  rintro ⟨i, o⟩ ⟨hi, hI⟩
  simp only at hi hI ⊢
  have hol : o.length ≤ 1000000 := by
    have := pre_len hI
    omega
  by_cases hlt : i < l.length
  case neg =>
    have hc : decide ((i : Int) < (l.length : Int)) = false := by simp <;> omega
    have e : i = l.length := by omega
    subst e
    have : o = canF l c := canF_of hI
    subst this
    by_cases h3 : 300 < (canF l c).length
    · have hc3 : decide (((canF l c).length : Int) > 300) = true := by simp <;> omega
      repeat' (first
    | (with_reducible refine aw_seq ?_)
    | (with_reducible refine kont_in ?_; simp only [go_sem, reduceIte, Nat.reduceLT, Nat.reduceEqDiff, Nat.reduceAdd, Nat.reduceMul, Nat.reduceSub, Nat.reduceLeDiff, reduceCtorEq, hc, hc3])
    | (with_reducible refine dKont_in ?_; simp only [go_sem, reduceIte, Nat.reduceLT, Nat.reduceEqDiff, Nat.reduceAdd, Nat.reduceMul, Nat.reduceSub, Nat.reduceLeDiff, reduceCtorEq, hc, hc3])
    | (with_reducible refine aw_drw (by kernel_rfl) hK kDet_nil ?_; simp only [go_sem, reduceIte, Nat.reduceLT, Nat.reduceEqDiff, Nat.reduceAdd, Nat.reduceMul, Nat.reduceSub, Nat.reduceLeDiff, reduceCtorEq, hc, hc3])
    | (with_reducible refine aw_reg hK ?_; simp only [go_sem, reduceIte, Nat.reduceLT, Nat.reduceEqDiff, Nat.reduceAdd, Nat.reduceMul, Nat.reduceSub, Nat.reduceLeDiff, reduceCtorEq, hc, hc3])
    | (with_reducible refine aw_if ?_; simp only [go_sem, reduceIte, Nat.reduceLT, Nat.reduceEqDiff, Nat.reduceAdd, Nat.reduceMul, Nat.reduceSub, Nat.reduceLeDiff, reduceCtorEq, hc, hc3])
    | (with_reducible refine aw_block ?_)
    | (with_reducible refine aw_ret ?_; (try simp only [thenQ, blockQ]); refine aw_ret' ?_; simp only [go_sem, reduceIte, Nat.reduceLT, Nat.reduceEqDiff, Nat.reduceAdd, Nat.reduceMul, Nat.reduceSub, Nat.reduceLeDiff, reduceCtorEq, hc, hc3])
    | (with_reducible refine aw_exit ?_; simp only [thenQ, blockQ, reduceIte, Nat.reduceEqDiff])
    | (with_reducible refine aw_skip ?_; simp only [thenQ, blockQ])
    | (with_reducible refine gate_intro (fun h => ?_) (fun h => ?_) <;> simp only [h, go_sem, reduceIte, Nat.reduceLT, Nat.reduceEqDiff, Nat.reduceAdd, Nat.reduceMul, Nat.reduceSub, Nat.reduceLeDiff, reduceCtorEq, hc, hc3] <;> (try simp only [decide_eq_true_eq, decide_eq_false_iff_not, Bool.not_true] at h))
    | (with_reducible refine chk_in (by kernel_rfl) ?_)
    | (with_reducible refine And.intro (And.intro (by omega) (by omega)) ?_)
    | (with_reducible refine And.intro (by omega) ?_)
    | (rw [get_in]; rotate_left; omega; simp only [go_sem, reduceIte, Nat.reduceLT, Nat.reduceEqDiff, Nat.reduceAdd, Nat.reduceMul, Nat.reduceSub, Nat.reduceLeDiff, reduceCtorEq, hc, hc3])
    | fail)
      refine ⟨_, rfl, ?_, rfl⟩
      simp only [canR, ne_eq, hl, not_true_eq_false, if_false, h3, if_true]
      exact .z _ _ _ (.refl _)
    · have hc3 : decide (((canF l c).length : Int) > 300) = false := by simp <;> omega
      repeat' (first
    | (with_reducible refine aw_seq ?_)
    | (with_reducible refine kont_in ?_; simp only [go_sem, reduceIte, Nat.reduceLT, Nat.reduceEqDiff, Nat.reduceAdd, Nat.reduceMul, Nat.reduceSub, Nat.reduceLeDiff, reduceCtorEq, hc, hc3])
    | (with_reducible refine dKont_in ?_; simp only [go_sem, reduceIte, Nat.reduceLT, Nat.reduceEqDiff, Nat.reduceAdd, Nat.reduceMul, Nat.reduceSub, Nat.reduceLeDiff, reduceCtorEq, hc, hc3])
    | (with_reducible refine aw_drw (by kernel_rfl) hK kDet_nil ?_; simp only [go_sem, reduceIte, Nat.reduceLT, Nat.reduceEqDiff, Nat.reduceAdd, Nat.reduceMul, Nat.reduceSub, Nat.reduceLeDiff, reduceCtorEq, hc, hc3])
    | (with_reducible refine aw_reg hK ?_; simp only [go_sem, reduceIte, Nat.reduceLT, Nat.reduceEqDiff, Nat.reduceAdd, Nat.reduceMul, Nat.reduceSub, Nat.reduceLeDiff, reduceCtorEq, hc, hc3])
    | (with_reducible refine aw_if ?_; simp only [go_sem, reduceIte, Nat.reduceLT, Nat.reduceEqDiff, Nat.reduceAdd, Nat.reduceMul, Nat.reduceSub, Nat.reduceLeDiff, reduceCtorEq, hc, hc3])
    | (with_reducible refine aw_block ?_)
    | (with_reducible refine aw_ret ?_; (try simp only [thenQ, blockQ]); refine aw_ret' ?_; simp only [go_sem, reduceIte, Nat.reduceLT, Nat.reduceEqDiff, Nat.reduceAdd, Nat.reduceMul, Nat.reduceSub, Nat.reduceLeDiff, reduceCtorEq, hc, hc3])
    | (with_reducible refine aw_exit ?_; simp only [thenQ, blockQ, reduceIte, Nat.reduceEqDiff])
    | (with_reducible refine aw_skip ?_; simp only [thenQ, blockQ])
    | (with_reducible refine gate_intro (fun h => ?_) (fun h => ?_) <;> simp only [h, go_sem, reduceIte, Nat.reduceLT, Nat.reduceEqDiff, Nat.reduceAdd, Nat.reduceMul, Nat.reduceSub, Nat.reduceLeDiff, reduceCtorEq, hc, hc3] <;> (try simp only [decide_eq_true_eq, decide_eq_false_iff_not, Bool.not_true] at h))
    | (with_reducible refine chk_in (by kernel_rfl) ?_)
    | (with_reducible refine And.intro (And.intro (by omega) (by omega)) ?_)
    | (with_reducible refine And.intro (by omega) ?_)
    | (rw [get_in]; rotate_left; omega; simp only [go_sem, reduceIte, Nat.reduceLT, Nat.reduceEqDiff, Nat.reduceAdd, Nat.reduceMul, Nat.reduceSub, Nat.reduceLeDiff, reduceCtorEq, hc, hc3])
    | fail)
      refine ⟨_, rfl, ?_, rfl⟩
      simp only [canR, ne_eq, hl, not_true_eq_false, if_false, h3]
      exact .refl _
  have hc : decide ((i : Int) < (l.length : Int)) = true := by simp <;> omega
  have hw := wrS (i := i) (by omega)
  repeat' (first
    | (with_reducible refine aw_seq ?_)
    | (with_reducible refine kont_in ?_; simp only [go_sem, reduceIte, Nat.reduceLT, Nat.reduceEqDiff, Nat.reduceAdd, Nat.reduceMul, Nat.reduceSub, Nat.reduceLeDiff, reduceCtorEq, hc, hw, s1, c1])
    | (with_reducible refine dKont_in ?_; simp only [go_sem, reduceIte, Nat.reduceLT, Nat.reduceEqDiff, Nat.reduceAdd, Nat.reduceMul, Nat.reduceSub, Nat.reduceLeDiff, reduceCtorEq, hc, hw, s1, c1])
    | (with_reducible refine aw_drw (by kernel_rfl) hK hD ?_; simp only [go_sem, reduceIte, Nat.reduceLT, Nat.reduceEqDiff, Nat.reduceAdd, Nat.reduceMul, Nat.reduceSub, Nat.reduceLeDiff, reduceCtorEq, hc, hw, s1, c1])
    | (with_reducible refine aw_reg hK ?_; simp only [go_sem, reduceIte, Nat.reduceLT, Nat.reduceEqDiff, Nat.reduceAdd, Nat.reduceMul, Nat.reduceSub, Nat.reduceLeDiff, reduceCtorEq, hc, hw, s1, c1])
    | (with_reducible refine aw_if ?_; simp only [go_sem, reduceIte, Nat.reduceLT, Nat.reduceEqDiff, Nat.reduceAdd, Nat.reduceMul, Nat.reduceSub, Nat.reduceLeDiff, reduceCtorEq, hc, hw, s1, c1])
    | (with_reducible refine aw_block ?_)
    | (with_reducible refine aw_ret ?_; (try simp only [thenQ, blockQ]); refine aw_ret' ?_; simp only [go_sem, reduceIte, Nat.reduceLT, Nat.reduceEqDiff, Nat.reduceAdd, Nat.reduceMul, Nat.reduceSub, Nat.reduceLeDiff, reduceCtorEq, hc, hw, s1, c1])
    | (with_reducible refine aw_exit ?_; simp only [thenQ, blockQ, reduceIte, Nat.reduceEqDiff])
    | (with_reducible refine aw_skip ?_; simp only [thenQ, blockQ])
    | (with_reducible refine gate_intro (fun h => ?_) (fun h => ?_) <;> simp only [h, go_sem, reduceIte, Nat.reduceLT, Nat.reduceEqDiff, Nat.reduceAdd, Nat.reduceMul, Nat.reduceSub, Nat.reduceLeDiff, reduceCtorEq, hc, hw, s1, c1] <;> (try simp only [decide_eq_true_eq, decide_eq_false_iff_not, Bool.not_true] at h))
    | (with_reducible refine chk_in (by kernel_rfl) ?_)
    | (with_reducible refine And.intro (And.intro (by omega) (by omega)) ?_)
    | (with_reducible refine And.intro (by omega) ?_)
    | (refine counts_call rfl l c i rfl rfl (by omega) rfl ?_)
    | (rw [get_in]; rotate_left; omega; simp only [go_sem, reduceIte, Nat.reduceLT, Nat.reduceEqDiff, Nat.reduceAdd, Nat.reduceMul, Nat.reduceSub, Nat.reduceLeDiff, reduceCtorEq, hc, hw, s1, c1])
    | fail)
  · exact ⟨(i + 1, o), weak_in [(100, 100)] (by repeat' (first | trivial | constructor | rfl)) (by repeat' (first | trivial | constructor | rfl)) (by rfl) (by rfl) (by rfl), ⟨by simp only; omega, hI.skip (by simpa using h)⟩, by simp only; omega⟩
  have hct : countsS l c i = true := by simpa using h
  obtain ⟨⟨a1, a2, a3⟩, hx⟩ : ∃ s, l[i]? = some s := ⟨_, List.getElem?_eq_getElem hlt⟩
  have hs : stAt l i = (a1, a2, a3) := by simp [stAt, hx]
  refine aw_rounds (α := Nat) (fun k => ⟨envOf [(0, .sl 3 (stR l)), (1, .sl 1 (intL c)), (4, .nils), (5, i64 0), (6, .row 100), (7, i64 i), (8, i64 k)], memOf [(100, .row 1 (intL (natI o)) true)], 300⟩)
    (fun k => k ≤ o.length ∧ ∀ j x, k ≤ j → o[j]? = some x → 0 < cmpS (stAt l x) (stAt l i)) (fun k => k) o.length ⟨Nat.le_refl _, fun j x hj hx => by rw [List.getElem?_eq_none hj] at hx; cases hx⟩ (weak_in [(100, 100)] (by repeat' (first | trivial | constructor | rfl)) (by repeat' (first | trivial | constructor | rfl)) (by rfl) (by rfl) (by rfl)) ?_
  rintro k ⟨hk, hhi⟩
  cases k with
  | zero =>
    have hc0 : decide (((0 : Nat) : Int) > 0) = false := rfl
    repeat' (first
    | (with_reducible refine aw_seq ?_)
    | (with_reducible refine kont_in ?_; simp only [go_sem, reduceIte, Nat.reduceLT, Nat.reduceEqDiff, Nat.reduceAdd, Nat.reduceMul, Nat.reduceSub, Nat.reduceLeDiff, reduceCtorEq, hc0, hw, s1, c1])
    | (with_reducible refine dKont_in ?_; simp only [go_sem, reduceIte, Nat.reduceLT, Nat.reduceEqDiff, Nat.reduceAdd, Nat.reduceMul, Nat.reduceSub, Nat.reduceLeDiff, reduceCtorEq, hc0, hw, s1, c1])
    | (with_reducible refine aw_drw (by kernel_rfl) hK hD ?_; simp only [go_sem, reduceIte, Nat.reduceLT, Nat.reduceEqDiff, Nat.reduceAdd, Nat.reduceMul, Nat.reduceSub, Nat.reduceLeDiff, reduceCtorEq, hc0, hw, s1, c1])
    | (with_reducible refine aw_reg hK ?_; simp only [go_sem, reduceIte, Nat.reduceLT, Nat.reduceEqDiff, Nat.reduceAdd, Nat.reduceMul, Nat.reduceSub, Nat.reduceLeDiff, reduceCtorEq, hc0, hw, s1, c1])
    | (with_reducible refine aw_if ?_; simp only [go_sem, reduceIte, Nat.reduceLT, Nat.reduceEqDiff, Nat.reduceAdd, Nat.reduceMul, Nat.reduceSub, Nat.reduceLeDiff, reduceCtorEq, hc0, hw, s1, c1])
    | (with_reducible refine aw_block ?_)
    | (with_reducible refine aw_ret ?_; (try simp only [thenQ, blockQ]); refine aw_ret' ?_; simp only [go_sem, reduceIte, Nat.reduceLT, Nat.reduceEqDiff, Nat.reduceAdd, Nat.reduceMul, Nat.reduceSub, Nat.reduceLeDiff, reduceCtorEq, hc0, hw, s1, c1])
    | (with_reducible refine aw_exit ?_; simp only [thenQ, blockQ, reduceIte, Nat.reduceEqDiff])
    | (with_reducible refine aw_skip ?_; simp only [thenQ, blockQ])
    | (with_reducible refine gate_intro (fun h => ?_) (fun h => ?_) <;> simp only [h, go_sem, reduceIte, Nat.reduceLT, Nat.reduceEqDiff, Nat.reduceAdd, Nat.reduceMul, Nat.reduceSub, Nat.reduceLeDiff, reduceCtorEq, hc0, hw, s1, c1] <;> (try simp only [decide_eq_true_eq, decide_eq_false_iff_not, Bool.not_true] at h))
    | (with_reducible refine chk_in (by kernel_rfl) ?_)
    | (with_reducible refine And.intro (And.intro (by omega) (by omega)) ?_)
    | (with_reducible refine And.intro (by omega) ?_)
    | (rw [get_in]; rotate_left; omega; simp only [go_sem, reduceIte, Nat.reduceLT, Nat.reduceEqDiff, Nat.reduceAdd, Nat.reduceMul, Nat.reduceSub, Nat.reduceLeDiff, reduceCtorEq, hc0, hw, s1, c1])
    | fail)
    have := hI.ins hlt hct hk hhi (by intro x h; omega)
    refine ⟨(i + 1, o.take 0 ++ [i] ++ o.drop 0), ?_, ⟨by simp only; omega, this⟩, by simp only; omega⟩
    have e1 : intL (natI (o.take 0 ++ [i] ++ o.drop 0)) = [i64 i] :: intL (List.take o.length (natI o)) := by
      rw [List.take_of_length_le (l := natI o) (by simp [natI])]; simp [intL, natI]
    simp only [e1]
    exact weak_in [(100, _)] (by repeat' (first | trivial | constructor | rfl)) (by repeat' (first | trivial | constructor | rfl)) (by rfl) (by rfl) (by rfl)
  | succ k =>
    have hc0 : decide (((k + 1 : Nat) : Int) > 0) = true := by simp <;> omega
    have hw0 : IntKind.i64.wrap (((k + 1 : Nat) : Int) - 1) = (k : Int) := by rw [wr64 (by omega) (by omega)]; omega
    obtain ⟨x, hxo⟩ : ∃ x, o[k]? = some x := ⟨_, List.getElem?_eq_getElem (by omega)⟩
    have hxl : x < l.length := by
      have := (hI.2 x).1 (List.mem_of_getElem? hxo); omega
    obtain ⟨⟨b1, b2, b3⟩, hy⟩ : ∃ s, l[x]? = some s := ⟨_, List.getElem?_eq_getElem hxl⟩
    have ht : stAt l x = (b1, b2, b3) := by simp [stAt, hy]
    repeat' (first
    | (with_reducible refine aw_seq ?_)
    | (with_reducible refine kont_in ?_; simp only [go_sem, reduceIte, Nat.reduceLT, Nat.reduceEqDiff, Nat.reduceAdd, Nat.reduceMul, Nat.reduceSub, Nat.reduceLeDiff, reduceCtorEq, hc0, hw0, hw, hx, hxo, hy, stD, s1, c1])
    | (with_reducible refine dKont_in ?_; simp only [go_sem, reduceIte, Nat.reduceLT, Nat.reduceEqDiff, Nat.reduceAdd, Nat.reduceMul, Nat.reduceSub, Nat.reduceLeDiff, reduceCtorEq, hc0, hw0, hw, hx, hxo, hy, stD, s1, c1])
    | (with_reducible refine aw_drw (by kernel_rfl) hK hD ?_; simp only [go_sem, reduceIte, Nat.reduceLT, Nat.reduceEqDiff, Nat.reduceAdd, Nat.reduceMul, Nat.reduceSub, Nat.reduceLeDiff, reduceCtorEq, hc0, hw0, hw, hx, hxo, hy, stD, s1, c1])
    | (with_reducible refine aw_reg hK ?_; simp only [go_sem, reduceIte, Nat.reduceLT, Nat.reduceEqDiff, Nat.reduceAdd, Nat.reduceMul, Nat.reduceSub, Nat.reduceLeDiff, reduceCtorEq, hc0, hw0, hw, hx, hxo, hy, stD, s1, c1])
    | (with_reducible refine aw_if ?_; simp only [go_sem, reduceIte, Nat.reduceLT, Nat.reduceEqDiff, Nat.reduceAdd, Nat.reduceMul, Nat.reduceSub, Nat.reduceLeDiff, reduceCtorEq, hc0, hw0, hw, hx, hxo, hy, stD, s1, c1])
    | (with_reducible refine aw_block ?_)
    | (with_reducible refine aw_ret ?_; (try simp only [thenQ, blockQ]); refine aw_ret' ?_; simp only [go_sem, reduceIte, Nat.reduceLT, Nat.reduceEqDiff, Nat.reduceAdd, Nat.reduceMul, Nat.reduceSub, Nat.reduceLeDiff, reduceCtorEq, hc0, hw0, hw, hx, hxo, hy, stD, s1, c1])
    | (with_reducible refine aw_exit ?_; simp only [thenQ, blockQ, reduceIte, Nat.reduceEqDiff])
    | (with_reducible refine aw_skip ?_; simp only [thenQ, blockQ])
    | (with_reducible refine gate_intro (fun h => ?_) (fun h => ?_) <;> simp only [h, go_sem, reduceIte, Nat.reduceLT, Nat.reduceEqDiff, Nat.reduceAdd, Nat.reduceMul, Nat.reduceSub, Nat.reduceLeDiff, reduceCtorEq, hc0, hw0, hw, hx, hxo, hy, stD, s1, c1] <;> (try simp only [decide_eq_true_eq, decide_eq_false_iff_not, Bool.not_true] at h))
    | (with_reducible refine chk_in (by kernel_rfl) ?_)
    | (with_reducible refine And.intro (And.intro (by omega) (by omega)) ?_)
    | (with_reducible refine And.intro (by omega) ?_)
    | (refine rcompare_call rfl (b1, b2, b3) (a1, a2, a3) rfl rfl rfl ?_)
    | (rw [get_in]; rotate_left; omega; simp only [go_sem, reduceIte, Nat.reduceLT, Nat.reduceEqDiff, Nat.reduceAdd, Nat.reduceMul, Nat.reduceSub, Nat.reduceLeDiff, reduceCtorEq, hc0, hw0, hw, hx, hxo, hy, stD, s1, c1])
    | fail)
    · refine ⟨k, weak_in [(100, 100)] (by repeat' (first | trivial | constructor | rfl)) (by repeat' (first | trivial | constructor | rfl)) (by rfl) (by rfl) (by rfl), ⟨by omega, fun j y hj hy => ?_⟩, by omega⟩
      by_cases e : j = k
      · subst e; rw [hxo] at hy; cases hy; rw [ht, hs]; exact h
      · exact hhi j y (by omega) hy
    · have := hI.ins hlt hct hk hhi (by intro y _ hy; rw [Nat.add_sub_cancel, hxo] at hy; cases hy; rw [ht, hs]; exact h)
      have e1 : natI (o.take (k + 1) ++ [i] ++ o.drop (k + 1)) = List.take (k + 1) (natI o) ++ [(i : Int)] ++ List.take (o.length - (k + 1)) (List.drop (k + 1) (natI o)) := by
        rw [List.take_of_length_le (l := List.drop (k + 1) (natI o)) (by simp [natI])]; simp [natI, List.map_take, List.map_drop]
      refine ⟨(i + 1, o.take (k + 1) ++ [i] ++ o.drop (k + 1)), ?_, ⟨by simp only; omega, this⟩, by simp only; omega⟩
      simp only [e1]
      exact weak_in [(100, _)] (by repeat' (first | trivial | constructor | rfl)) (by repeat' (first | trivial | constructor | rfl)) (by rfl) (by rfl) (by rfl)
theorem canR_len (l : List St) (c : List Int) (h : l.length ≤ 1000000) : (canR l c).1.length ≤ 9223372036854775807 := by
  have := canF_len l c
  unfold canR
  split
  · simp
  · split
    · simp
    · simp only [natI_len]; omega
theorem canR_call {K : Kt} (hk : K 40 = some canC) {np fid : Nat} {M : Mem} {nx : D → Mem → Prop} (l : List St) (c : List Int) {x y : D} (hx : fz M true 4 x = some (.sl 3 (stR l))) (hy : fz M true 4 y = some (.sl 1 (intL c))) (hp : l.length ≤ 1000000) (hf : ∀ j, M (fid + j) = none)
    (hn : nx (.tup [.row fid, i64 (canR l c).2]) (upd M fid (some (.row 1 (intL (canR l c).1) true)))) : semCall K np 40 [x, y] M fid nx :=
  call_clR hk rfl rfl (l, c) (by simp only [argsV, mapO, hx, hy]; rfl) hp hf (by rintro r rfl; exact hn)
end Go.Proofs.R1

/- The chapter's example; the law of comparisons. -/
set_option linter.unusedVariables false
set_option linter.unusedSimpArgs false
set_option maxRecDepth 8000
set_option maxHeartbeats 4000000
namespace Go.Proofs.R1
open Go Go.Abs

theorem known_len (l : List St) (c : List Int) (n : Int) (h : l.length ≤ 1000000) : (knownR l c n).1.length ≤ 9223372036854775807 := by
  unfold knownR
  split
  · simp
  · split
    · simp
    · exact canR_len _ _ (by simp; omega)
def exL : List St := [(5, 1, 0), (3, 2, 7), (5, 1, 0), (4, 2, 7)]
theorem can_ex : canR exL [0, 0, 0, 0] = ([0], 0) := by
  have h : canF exL [0, 0, 0, 0] = [0] := (canF_of ⟨by simp, fun i => by
    match i with
    | 0 => decide
    | 1 => decide
    | 2 => decide
    | 3 => decide
    | i + 4 => simp [exL]; intro h; omega⟩).symm
  unfold canR; rw [h]; decide
theorem known_ex : knownR exL [0, 0, 0, 0] 3 = ([1, 0], 0) := by
  have h : canF (exL.take 3) [0, 0, 0] = [1, 0] := (canF_of ⟨by decide, fun i => by
    match i with
    | 0 => decide
    | 1 => decide
    | 2 => decide
    | i + 3 => simp [exL]; intro h; omega⟩).symm
  have e : knownR exL [0, 0, 0, 0] 3 = canR (exL.take 3) [0, 0, 0] := by unfold knownR; rw [if_neg (by decide), if_neg (by decide)]; rfl
  rw [e]; unfold canR; rw [h]; decide

abbrev lawC (α : Type) (args : α → List AD) (pre : α → Prop) (kinds : List Bool) : Con where
  α := α
  kinds := kinds
  args := args
  pre := pre
  post := fun _ r => r = ⟨[.d (bl true)], []⟩
  clean := true
abbrev trueC : Con := lawC Unit (fun _ => []) (fun _ => True) []
theorem true_call {K : Kt} {f : FuncId} (hk : K f = some trueC) {np fid : Nat} {M : Mem} {nx : D → Mem → Prop} (hf : M fid = none) (hn : nx (bl true) M) : semCall K np f [] M fid nx :=
  call_fn hk rfl rfl (fun _ _ h => h) () rfl trivial hf hn
theorem rvalidc_call {K : Kt} (hk : K 72 = some validC) {np fid : Nat} {M : Mem} {nx : D → Mem → Prop} (s : St) {d : D} (hd : d = .agg (stD s)) (hf : M fid = none) (hn : nx (bl (valS s)) M) : semCall K np 72 [d] M fid nx := by
  subst hd
  exact call_fn hk rfl rfl (fun _ _ h => h) s rfl trivial hf hn
abbrev I6 := Int × Int × Int × Int × Int × Int
abbrev comparesC : Con := lawC I6 (fun a => [.d (i64 a.1), .d (i64 a.2.1), .d (i64 a.2.2.1), .d (i64 a.2.2.2.1), .d (i64 a.2.2.2.2.1), .d (i64 a.2.2.2.2.2)]) (fun _ => True) [false, false, false, false, false, false]
end Go.Proofs.R1

/- Laws of canonical lists. -/
set_option linter.unusedVariables false
set_option linter.unusedSimpArgs false
set_option maxRecDepth 8000
set_option maxHeartbeats 4000000
namespace Go.Proofs.R1
open Go Go.Abs

theorem newT_ok (l : List Int) : tpOk (newT l) := by
  simp only [tpOk, newT, List.length_take]; omega
theorem new_call {K : Kt} (hk : K 12 = some newC) {np fid : Nat} {M : Mem} {nx : D → Mem → Prop} (l : List Int) (hl : l.length ≤ 9223372036854775807) (hf : ∀ j, M (fid + j) = none)
    (hn : ∀ t, tpOk t → nx (.box fid 0) (upd M fid (some (.cells (tpD t))))) : semCall K np 12 [.sl 1 (intL l)] M fid nx :=
  call_uR hk rfl rfl l rfl rfl rfl hl hf (by rintro r rfl; exact hn _ (newT_ok l))
theorem until_call {K : Kt} {f : FuncId} (hk : K f = some untilC) {np fid : Nat} {M : Mem} {nx : D → Mem → Prop} (l : List St) (n : Int) {x : D} (hx : fz M true 4 x = some (.sl 3 (stR l))) (hl : l.length ≤ 9223372036854775807) (hf : M fid = none) (hn : nx (i64 (untilI l n)) M) : semCall K np f [x, i64 n] M fid nx :=
  call_fn hk rfl rfl (fun _ _ h => h) (l, n) (by simp only [argsV, mapO, hx]; rfl) hl hf hn

abbrev untilLawC : Con := lawC (List Int × Int) (fun a => [.d (.sl 1 (intL a.1)), .d (i64 a.2)]) (fun a => a.1.length ≤ 9223372036854775807) [false, false]
abbrev canLawC : Con := lawC (List Int × List Int) (fun a => [.d (.sl 1 (intL a.1)), .d (.sl 1 (intL a.2))]) (fun a => a.1.length ≤ 9223372036854775807 ∧ a.2.length ≤ 9223372036854775807) [false, false]
abbrev knowsLawC : Con := lawC (List Int × Int) (fun a => [.d (.sl 1 (intL a.1)), .d (i64 a.2)]) (fun a => a.1.length ≤ 9223372036854775807) [false, false]
end Go.Proofs.R1

/- What the canonical list names depends on the set of events. -/
set_option linter.unusedVariables false
set_option linter.unusedSimpArgs false
namespace Go.Proofs.R1
open Go Go.Abs

@[go_sem] theorem stD_nf (np : Nat) (M : Mem) (s : St) : (stD s).all (nf0 np M) = true := rfl
@[go_sem] theorem stD_ids (n : Nat) (M : Mem) (s : St) : (stD s).flatMap (ids M n) = [] := by cases n <;> rfl
theorem least {P : Nat → Prop} (h : ∃ i, P i) : ∃ i, P i ∧ ∀ j, j < i → ¬ P j := by
  obtain ⟨i, hi⟩ := h
  induction i using Nat.strongRecOn with
  | _ i ih =>
    by_cases hj : ∃ j, j < i ∧ P j
    · obtain ⟨j, h1, h2⟩ := hj; exact ih j h1 h2
    · exact ⟨i, hi, fun j h1 h2 => hj ⟨j, h1, h2⟩⟩

abbrev Ev := St × Int
def ev (l : List St) (c : List Int) (i : Nat) : Ev := (stAt l i, inAt c i)
def IsEv (l : List St) (c : List Int) (p : Ev) : Prop := ∃ i, i < l.length ∧ ev l c i = p
/-- An event that counts, by the set of all. -/
def CE (l : List St) (c : List Int) (p : Ev) : Prop := IsEv l c p ∧ valS p.1 = true ∧ ∀ q, IsEv l c q → valS q.1 = true → dispS p.1 q.1 p.2 q.2 = false
theorem counts_ce {l : List St} {c : List Int} {i : Nat} (hi : i < l.length) (h : countsS l c i = true) : CE l c (ev l c i) := by
  simp only [countsS, Bool.and_eq_true, List.all_eq_true, List.mem_range, Bool.not_eq_true'] at h
  refine ⟨⟨i, hi, rfl⟩, h.1, ?_⟩
  rintro q ⟨k, hk, rfl⟩ hv
  have := h.2 k hk
  simp only [badAt, show valS (stAt l k) = true from hv, Bool.true_and, Bool.or_eq_false_iff] at this
  exact this.1
theorem ce_counts {l : List St} {c : List Int} {p : Ev} (h : CE l c p) : ∃ i, i < l.length ∧ countsS l c i = true ∧ ev l c i = p := by
  obtain ⟨h1, h2, h3⟩ := h
  obtain ⟨i, ⟨hi, he⟩, hl⟩ := least h1
  refine ⟨i, hi, ?_, he⟩
  subst he
  simp only [countsS, Bool.and_eq_true, List.all_eq_true, List.mem_range, Bool.not_eq_true']
  refine ⟨h2, fun k hk => ?_⟩
  simp only [badAt, Bool.and_eq_false_iff, Bool.or_eq_false_iff, decide_eq_false_iff_not]
  cases hv : valS (stAt l k) with
  | false => exact .inl rfl
  | true =>
    have hd := h3 (ev l c k) ⟨k, hk, rfl⟩ hv
    refine .inr ⟨hd, ?_⟩
    by_cases hlt : k < i
    · refine .inr fun hs => hl k hlt ⟨hk, ?_⟩
      have := dispS_false hd (by show idS (stAt l k) = idS (stAt l i); rw [hs])
      exact Prod.ext this.1 this.2
    · exact .inl hlt
abbrev EvLt (p q : Ev) : Prop := cmpS p.1 q.1 < 0
theorem can_ev (l : List St) (c : List Int) : ((canF l c).map (ev l c)).Pairwise EvLt ∧ ∀ p, p ∈ (canF l c).map (ev l c) ↔ CE l c p := by
  obtain ⟨h1, h2⟩ := canF_is l c
  refine ⟨by rw [List.pairwise_map]; exact h1, fun p => ?_⟩
  rw [List.mem_map]
  constructor
  · rintro ⟨i, hi, rfl⟩
    exact counts_ce ((h2 i).1 hi).1 ((h2 i).1 hi).2
  · intro h
    obtain ⟨i, a, b, d⟩ := ce_counts h
    exact ⟨i, (h2 i).2 ⟨a, b⟩, d⟩
theorem can_same {l m : List St} {c d : List Int} (h : ∀ p, IsEv l c p ↔ IsEv m d p) : (canF l c).map (ev l c) = (canF m d).map (ev m d) := by
  refine asc_unique (lt := EvLt) (fun a => cmpS_irr _) (fun a b c h k => cmpS_trans h k) _ _ (can_ev l c).1 (can_ev m d).1 fun p => ?_
  rw [(can_ev l c).2, (can_ev m d).2]
  simp only [CE, h]
/-- Canonical of what counts names all of it, in order. -/
theorem can_twice (l : List St) (c : List Int) : canF ((canF l c).map (stAt l)) ((canF l c).map (inAt c)) = List.range (canF l c).length := by
  obtain ⟨h1, h2⟩ := canF_is l c
  have hst : ∀ i, i < (canF l c).length → ∃ x, (canF l c)[i]? = some x ∧ stAt ((canF l c).map (stAt l)) i = stAt l x ∧ inAt ((canF l c).map (inAt c)) i = inAt c x := by
    intro i hi
    refine ⟨_, List.getElem?_eq_getElem hi, ?_, ?_⟩ <;> simp [stAt, inAt, hi]
  have hlt : ∀ i j, i < j → j < (canF l c).length → cmpS (stAt ((canF l c).map (stAt l)) i) (stAt ((canF l c).map (stAt l)) j) < 0 := by
    intro i j hij hj
    obtain ⟨x, hx, ex, _⟩ := hst i (by omega)
    obtain ⟨y, hy, ey, _⟩ := hst j hj
    rw [ex, ey]
    obtain ⟨a, rfl⟩ := List.getElem?_eq_some_iff.1 hx
    obtain ⟨b, rfl⟩ := List.getElem?_eq_some_iff.1 hy
    exact List.pairwise_iff_getElem.1 h1 i j a b hij
  refine (canF_of ⟨?_, fun i => ?_⟩).symm
  · rw [List.pairwise_iff_getElem]
    intro i j hi hj hij
    simp only [List.getElem_range]
    simp only [List.length_range] at hj
    exact hlt i j hij hj
  · rw [List.mem_range]
    simp only [List.length_map]
    refine ⟨fun hi => ⟨hi, ?_⟩, fun h => h.1⟩
    obtain ⟨x, hx, ex, ecx⟩ := hst i hi
    have hxm := (h2 x).1 (List.mem_of_getElem? hx)
    have hce := counts_ce hxm.1 hxm.2
    simp only [countsS, Bool.and_eq_true, List.all_eq_true, List.mem_range, Bool.not_eq_true', List.length_map]
    refine ⟨by rw [ex]; exact hce.2.1, fun k hk => ?_⟩
    obtain ⟨y, hy, ey, ecy⟩ := hst k hk
    have hym := (h2 y).1 (List.mem_of_getElem? hy)
    have hd := hce.2.2 (ev l c y) ⟨y, hym.1, rfl⟩ (counts_ce hym.1 hym.2).2.1
    simp only [badAt, ex, ey, ecx, ecy, Bool.and_eq_false_iff, Bool.or_eq_false_iff, decide_eq_false_iff_not]
    refine .inr ⟨hd, ?_⟩
    by_cases hki : k < i
    · have := hlt k i hki hi
      rw [ex, ey] at this
      exact .inr fun he => by rw [he] at this; exact cmpS_irr _ this
    · exact .inl hki
end Go.Proofs.R1

/- The abstract machine: maps of rows; their rows as a family of identities. -/
set_option linter.unusedVariables false
set_option linter.unusedSimpArgs false
namespace Go.Abs
open Go

theorem memOf_app (l r : List (Nat × Ent)) (i : Nat) : memOf (l ++ r) i = (match memOf l i with | some e => some e | none => memOf r i) := by
  induction l with
  | nil => rfl
  | cons p l ih =>
    obtain ⟨k, e⟩ := p
    simp only [List.cons_append, memOf]
    split
    · rfl
    · exact ih
theorem memOf_lo {l : List (Nat × Ent)} {n i : Nat} (h : ∀ p, p ∈ l → n ≤ p.1) (hi : i < n) : memOf l i = none := by
  induction l with
  | nil => rfl
  | cons p l ih =>
    obtain ⟨k, e⟩ := p
    have := h _ List.mem_cons_self
    simp only [memOf]
    simp only at this
    rw [if_neg (by omega)]
    exact ih fun q hq => h q (List.mem_cons_of_mem _ hq)
theorem memOf_hi {l r : List (Nat × Ent)} {n i : Nat} (h : (l.all fun p => decide (p.1 < n)) = true) (hi : n ≤ i) : memOf (l ++ r) i = memOf r i := by
  induction l with
  | nil => rfl
  | cons p l ih =>
    obtain ⟨k, e⟩ := p
    simp only [List.all_cons, Bool.and_eq_true, decide_eq_true_eq] at h
    simp only [List.cons_append, memOf]
    rw [if_neg (by omega)]
    exact ih h.2
theorem memOf_no {l : List (Nat × Ent)} {a i : Nat} : memOf (l.filter fun p => p.1 != a) i = if i = a then none else memOf l i := by
  induction l with
  | nil => simp [memOf]
  | cons p l ih =>
    obtain ⟨k, e⟩ := p
    simp only [List.filter_cons]
    by_cases hk : k = a
    · subst hk
      simp only [bne_self_eq_false, Bool.false_eq_true, if_false, ih, memOf]
      split
      · rfl
      · rfl
    · have : (k != a) = true := by simpa using hk
      simp only [this, if_true, memOf, ih]
      by_cases hi : i = k
      · subst hi; simp [hk]
      · simp [hi]

/-- The rows of a map: by its keys. -/
def famE {κ : Type} (sz : Nat) (c : κ → List (List D)) : Nat → List κ → List (Nat × Ent)
  | _, [] => []
  | n, s :: l => (n, .row sz (c s) true) :: famE sz c (n + 1) l
def kvE {κ : Type} (ke : κ → List D) : Nat → List κ → List (D × Nat)
  | _, [] => []
  | n, s :: l => (.agg (ke s), n) :: kvE ke (n + 1) l
theorem famE_get {κ : Type} {sz : Nat} {c : κ → List (List D)} : ∀ (l : List κ) (n i : Nat), memOf (famE sz c n l) i = if n ≤ i then (l[i - n]?).map (fun s => .row sz (c s) true) else none
  | [], n, i => by simp [famE, memOf]
  | s :: l, n, i => by
    have ih := famE_get (sz := sz) (c := c) l (n + 1) i
    simp only [famE, memOf, ih]
    by_cases h1 : i = n
    · subst h1; simp
    · rw [if_neg h1]
      by_cases h2 : n ≤ i
      · rw [if_pos (by omega), if_pos h2]
        have : i - n = (i - (n + 1)) + 1 := by omega
        rw [this, List.getElem?_cons_succ]
      · rw [if_neg (by omega), if_neg h2]
theorem famE_mem {κ : Type} {sz : Nat} {c : κ → List (List D)} : ∀ {l : List κ} {n : Nat} {p : Nat × Ent}, p ∈ famE sz c n l → ∃ i s, p.1 = n + i ∧ l[i]? = some s ∧ p.2 = .row sz (c s) true
  | s :: l, n, p, h => by
    rcases List.mem_cons.1 h with rfl | h
    · exact ⟨0, s, rfl, rfl, rfl⟩
    · obtain ⟨i, s', h1, h2, h3⟩ := famE_mem h
      exact ⟨i + 1, s', by omega, h2, h3⟩
theorem famE_app {κ : Type} {sz : Nat} {c : κ → List (List D)} : ∀ (l r : List κ) (n : Nat), famE sz c n (l ++ r) = famE sz c n l ++ famE sz c (n + l.length) r
  | [], r, n => by simp [famE]
  | s :: l, r, n => by simp only [List.cons_append, famE, famE_app l r, List.length_cons]; congr 3; omega
theorem kvE_len {κ : Type} {ke : κ → List D} : ∀ (l : List κ) (n : Nat), (kvE ke n l).length = l.length
  | [], n => rfl
  | s :: l, n => by simp [kvE, kvE_len l]
theorem kvE_get {κ : Type} {ke : κ → List D} : ∀ (l : List κ) (n i : Nat), (kvE ke n l)[i]? = (l[i]?).map fun s => (.agg (ke s), n + i)
  | [], n, i => by simp [kvE]
  | s :: l, n, 0 => by simp [kvE]
  | s :: l, n, i + 1 => by
    simp only [kvE, List.getElem?_cons_succ, kvE_get l (n + 1) i]
    congr 1; funext s; congr 1; omega

/-- Other identities, where a family follows what is listed. -/
def heO (old : Nat → Nat) (M' : Mem) (el : List (Nat × D)) : List (Nat × D) → Prop
  | [] => True
  | p :: l => reD old M' p.2 = some (envOf el p.1) ∧ heO old M' el l
def hmO (old : Nat → Nat) (M' M : Mem) : List (Nat × Ent) → Prop
  | [] => True
  | p :: l => (reE old M' p.2 = M (old p.1) ∧ (M (old p.1)).isSome = true) ∧ hmO old M' M l
theorem heO_mem {old : Nat → Nat} {M' : Mem} {el l : List (Nat × D)} (h : heO old M' el l) : ∀ p, p ∈ l → reD old M' p.2 = some (envOf el p.1) := by
  induction l with
  | nil => intro p hp; cases hp
  | cons a l ih =>
    intro p hp
    rcases List.mem_cons.1 hp with rfl | hp
    · exact h.1
    · exact ih h.2 p hp
theorem hmO_mem {old : Nat → Nat} {M' M : Mem} {l : List (Nat × Ent)} (h : hmO old M' M l) : ∀ p, p ∈ l → reE old M' p.2 = M (old p.1) ∧ (M (old p.1)).isSome = true := by
  induction l with
  | nil => intro p hp; cases hp
  | cons a l ih =>
    intro p hp
    rcases List.mem_cons.1 hp with rfl | hp
    · exact h.1
    · exact ih h.2 p hp
theorem weak_fam {n np : Nat} {el el' : List (Nat × D)} {ml ml' R R' : List (Nat × Ent)} {x y : Nat} (old : Nat → Nat) (he : heO old (memOf (ml' ++ R')) el el') (hm : hmO old (memOf (ml' ++ R')) (memOf (ml ++ R)) ml')
    (hR : ∀ p, p ∈ R' → (∃ sz es, p.2 = .row sz es true) ∧ memOf (ml ++ R) (old p.1) = some p.2 ∧ np ≤ old p.1)
    (hn : ml'.all (fun p => decide (np ≤ p.1 → np ≤ old p.1)) = true) (hd1 : ((ml'.map fun p => old p.1).Nodup : Bool) = true)
    (hd2 : ∀ p q, p ∈ R' → q ∈ R' → old p.1 = old q.1 → p.1 = q.1) (hd3 : ∀ p q, p ∈ ml' → q ∈ R' → old p.1 ≠ old q.1)
    (hp : ((List.range np).all fun j => (memOf (ml ++ R) j).isNone || ((memOf (ml' ++ R') j).isSome && old j == j)) = true) : Weak n np ⟨envOf el, memOf (ml ++ R), x⟩ ⟨envOf el', memOf (ml' ++ R'), y⟩ := by
  refine weak_re (s := ⟨envOf el, memOf (ml ++ R), x⟩) old el' (ml' ++ R') y (heO_mem he) (fun p hp' => ?_) (fun p q h1 h2 h3 => ?_) (fun j hj => ?_)
  · rcases List.mem_append.1 hp' with h | h
    · have h1 := hmO_mem hm p h
      refine ⟨h1.1, by rw [h1.1]; exact h1.2, ?_⟩
      rw [List.all_eq_true] at hn
      exact of_decide_eq_true (hn p h)
    · obtain ⟨⟨sz, es, h1⟩, h2, h3⟩ := hR p h
      refine ⟨?_, by rw [h1]; rfl, fun _ => h3⟩
      show reE old (memOf (ml' ++ R')) p.2 = memOf (ml ++ R) (old p.1)
      rw [h2, h1]; rfl
  · have hd' : (ml'.map fun p => old p.1).Nodup := by simpa using hd1
    have key : ∀ {l : List (Nat × Ent)}, (l.map fun p => old p.1).Nodup → p ∈ l → q ∈ l → p = q := by
      intro l hl hp hq
      induction l with
      | nil => cases hp
      | cons a l ih =>
        simp only [List.map_cons, List.nodup_cons, List.mem_map, not_exists, not_and] at hl
        rcases List.mem_cons.1 hp with rfl | hp1 <;> rcases List.mem_cons.1 hq with rfl | hq1
        · rfl
        · exact absurd h3.symm (hl.1 q hq1)
        · exact absurd h3 (hl.1 p hp1)
        · exact ih hl.2 hp1 hq1
    rcases List.mem_append.1 h1 with h1 | h1 <;> rcases List.mem_append.1 h2 with h2 | h2
    · rw [key hd' h1 h2]
    · exact absurd h3 (hd3 p q h1 h2)
    · exact absurd h3.symm (hd3 q p h2 h1)
    · exact hd2 p q h1 h2 h3
  · rw [List.all_eq_true] at hp
    have := hp j (List.mem_range.2 hj)
    simp only [Bool.or_eq_true, Bool.and_eq_true, beq_iff_eq, Option.isNone_iff_eq_none] at this
    exact this

/-- A new map is a map of rows. -/
theorem weak_rmap {n np : Nat} {s : S} {id : Nat} (hm : s.mem id = some (.map [] true)) : Weak n np s { s with mem := upd s.mem id (some (.rmap [])) } :=
  weak_mem fun F g w hnp hM => by
    obtain ⟨gi, hg, hE⟩ := hM.ent id _ hm
    obtain ⟨hl, hA, es, h1, h2, h3⟩ := hE
    exact hM.modify (w' := w) (e' := .rmap []) hm rfl hg hl (fun b _ => rfl) rfl rfl rfl rfl rfl (fun hL => ⟨hl, es, h1, h2, by simpa [rows] using h3.1, fun i kv e a b => by simp [rows] at a⟩)
theorem aw_rmap {P : Program} {n np : Nat} {Q : Exit → S → Prop} (id : Nat) {c : Code} {el : List (Nat × D)} {ml : List (Nat × Ent)} {x : Nat} (hm : memOf ml id = some (.map [] true))
    (h : AW P n np c Q ⟨envOf el, memOf ((id, .rmap []) :: ml), x⟩) : AW P n np c Q ⟨envOf el, memOf ml, x⟩ := by
  refine aw_weak (weak_rmap (s := ⟨envOf el, memOf ml, x⟩) hm) ?_
  simp only [upd_memOf]
  exact h

end Go.Abs

/- Events of entries: the tape's. -/
set_option linter.unusedVariables false
set_option linter.unusedSimpArgs false
set_option maxRecDepth 8000
set_option maxHeartbeats 8000000
namespace Go.Proofs.R1
open Go Go.Abs

abbrev En := Int × Int × Int
abbrev EE := St × Int × En × Int
def eeD (e : EE) : List D := [i64 e.1.1, i64 e.1.2.1, i64 e.1.2.2, i64 e.2.1, i64 e.2.2.1.1, i64 e.2.2.1.2.1, i64 e.2.2.1.2.2, i64 e.2.2.2]
def eeR (l : List EE) : List (List D) := l.map eeD
@[go_sem] theorem eeR_len (l : List EE) : (eeR l).length = l.length := by simp [eeR]
@[go_sem] theorem eeR_get (l : List EE) (n : Nat) : (eeR l)[n]? = (l[n]?).map eeD := by simp [eeR]
@[go_sem] theorem eeR_app (l r : List EE) : eeR l ++ eeR r = eeR (l ++ r) := by simp [eeR]
@[go_sem] theorem eeR_app1 (l : List EE) (e : EE) : eeR l ++ [eeD e] = eeR (l ++ [e]) := by simp [eeR]
@[go_sem] theorem eeD_len (s : EE) : (eeD s).length = 8 := rfl
@[go_sem] theorem eeD_all (s : EE) : (eeD s).all isCell = true := rfl
@[go_sem] theorem eeD_take (s : EE) : (eeD s).take 8 = eeD s := rfl
@[go_sem] theorem eeD_drop (s : EE) : (eeD s).drop 8 = [] := rfl
@[go_sem] theorem eeD_frz (np : Nat) (M : Mem) (s : EE) : frzL np M (eeD s) = M := rfl
@[go_sem] theorem eeD_fz (M : Mem) (b : Bool) (s : EE) : mapO (fz M b 1) (eeD s) = some (eeD s) := rfl
@[go_sem] theorem eeD_nf (np : Nat) (M : Mem) (s : EE) : (eeD s).all (nf0 np M) = true := rfl
@[go_sem] theorem eeD_ids (n : Nat) (M : Mem) (s : EE) : (eeD s).flatMap (ids M n) = [] := by cases n <;> rfl

theorem pickw_call {K : Kt} (hk : K 35 = some pickC) {np fid id : Nat} {M M' : Mem} {nx : D → Mem → Prop} (t : Tp) (l : List Int) {d : D} (hfr : frzA np M [.box id 0, d] = M') (hd : fz M' false 1 d = some (slI l)) (hm : M' id = some (.cells (tpD t))) (hp : tpOk t) (hl : 1 ≤ l.length ∧ l.length ≤ 1000000) (hf : M fid = none)
    (hn : ∀ v t', tpOk t' → nx (i64 v) (upd M' id (some (.cells (tpD t'))))) : semCall K np 35 [.box id 0, d] M fid nx :=
  pick_call hk t l hfr hd hm hp hl hf (hn _ _ (raw_ok hp))
theorem wildw_call {K : Kt} (hk : K 36 = some wildC) {np fid id : Nat} {M : Mem} {nx : D → Mem → Prop} (t : Tp) (hm : M id = some (.cells (tpD t))) (hp : tpOk t) (hf : M fid = none)
    (hn : ∀ v t', tpOk t' → nx (i64 v) (upd M id (some (.cells (tpD t'))))) : semCall K np 36 [.box id 0] M fid nx :=
  wild_call hk t hm hp hf (hn _ _ (raw_ok hp))
theorem cutv_call {K : Kt} (hk : K 28 = some cutC) {np fid : Nat} {M : Mem} {nx : D → Mem → Prop} (x y : Int) (hp : 1 ≤ y ∧ y ≤ 9223372036854775807) (hf : M fid = none) (hn : ∀ v : Int, 0 ≤ v → v < y → nx (i64 v) M) : semCall K np 28 [i64 x, i64 y] M fid nx :=
  cut_call hk (x := x) (y := y) hp.2 hf (hn _ (cutI_lo x y) (cutI_hi x hp.1))

abbrev deadC : Con where
  α := Tp × Int
  kinds := [true, false]
  args := fun a => [.io (tpD a.1), .d (i64 a.2)]
  pre := fun a => tpOk a.1 ∧ 0 ≤ a.2 ∧ a.2 ≤ 1000000
  post := fun a r => ∃ (x y : Int) (t : Tp), tpOk t ∧ (a.2 = 0 → 0 ≤ x ∧ x ≤ y ∧ y ≤ 1000) ∧ r = ⟨[.d (.agg [i64 x, i64 y])], [tpD t]⟩
  clean := false
theorem dead_ok : CallOk Try.prog 19 deadC := by
  refine ok_of_body' 28 2 Try.func19 rfl (by decide) Try.ntmps19 (by intro a h; exact ⟨rfl, rfl⟩) (by decide) (by intro h; cases h) ?_
  rintro ⟨t, n⟩ ⟨h1, h2, h3⟩
  simp only [deadC] at h1 h2 h3 ⊢
  simp only [initE, initMm, List.length_cons, List.length_nil, Nat.reduceAdd]
  have hK : KOk Try.prog (kOf [(16, nextC), (25, rangeC), (21, oneC), (36, wildC)]) := kOk_cons next_ok' (kOk_cons range_ok' (kOk_cons one_ok (kOk_cons wild_ok kOk_nil)))
  repeat' (first
    | (with_reducible refine aw_seq ?_)
    | (with_reducible refine kont_in ?_; simp only [go_sem, reduceIte, Nat.reduceLT, Nat.reduceEqDiff, Nat.reduceAdd, Nat.reduceMul, Nat.reduceSub, Nat.reduceLeDiff, reduceCtorEq, tp_frz, tp_fz])
    | (with_reducible refine dKont_in ?_; simp only [go_sem, reduceIte, Nat.reduceLT, Nat.reduceEqDiff, Nat.reduceAdd, Nat.reduceMul, Nat.reduceSub, Nat.reduceLeDiff, reduceCtorEq, tp_frz, tp_fz])
    | (with_reducible refine aw_drw (by kernel_rfl) hK kDet_nil ?_; simp only [go_sem, reduceIte, Nat.reduceLT, Nat.reduceEqDiff, Nat.reduceAdd, Nat.reduceMul, Nat.reduceSub, Nat.reduceLeDiff, reduceCtorEq, tp_frz, tp_fz])
    | (with_reducible refine aw_reg hK ?_; simp only [go_sem, reduceIte, Nat.reduceLT, Nat.reduceEqDiff, Nat.reduceAdd, Nat.reduceMul, Nat.reduceSub, Nat.reduceLeDiff, reduceCtorEq, tp_frz, tp_fz])
    | (with_reducible refine aw_if ?_; simp only [go_sem, reduceIte, Nat.reduceLT, Nat.reduceEqDiff, Nat.reduceAdd, Nat.reduceMul, Nat.reduceSub, Nat.reduceLeDiff, reduceCtorEq, tp_frz, tp_fz])
    | (with_reducible refine aw_block ?_)
    | (with_reducible refine aw_ret ?_; (try simp only [thenQ, blockQ]); refine aw_ret' ?_; simp only [go_sem, reduceIte, Nat.reduceLT, Nat.reduceEqDiff, Nat.reduceAdd, Nat.reduceMul, Nat.reduceSub, Nat.reduceLeDiff, reduceCtorEq, tp_frz, tp_fz])
    | (with_reducible refine aw_exit ?_; simp only [thenQ, blockQ, reduceIte, Nat.reduceEqDiff])
    | (with_reducible refine aw_skip ?_; simp only [thenQ, blockQ])
    | (with_reducible refine gate_intro (fun h => ?_) (fun h => ?_) <;> simp only [h, go_sem, reduceIte, Nat.reduceLT, Nat.reduceEqDiff, Nat.reduceAdd, Nat.reduceMul, Nat.reduceSub, Nat.reduceLeDiff, reduceCtorEq, tp_frz, tp_fz] <;> (try simp only [decide_eq_true_eq, decide_eq_false_iff_not, Bool.not_true] at h))
    | (with_reducible refine chk_in (by kernel_rfl) ?_)
    | (with_reducible refine And.intro (And.intro (by omega) (by omega)) ?_)
    | (with_reducible refine And.intro (by omega) ?_)
    | (refine rng_call rfl _ _ _ rfl (by assumption) (by omega) rfl (fun c t1 ht1 hc0 hc1 => ?_))
    | (refine next_call rfl _ _ rfl (by assumption) (by omega) rfl (fun v t2 ht2 hv _ => ?_))
    | (refine oneb_call rfl _ _ rfl (by assumption) (by omega) rfl (fun b t3 ht3 => ?_))
    | (refine wildw_call rfl _ rfl (by assumption) rfl (fun w t2 ht2 => ?_))
    | (rw [get_in]; rotate_left; omega; simp only [go_sem, reduceIte, Nat.reduceLT, Nat.reduceEqDiff, Nat.reduceAdd, Nat.reduceMul, Nat.reduceSub, Nat.reduceLeDiff, reduceCtorEq, tp_frz, tp_fz])
    | fail)
  all_goals first
    | exact ⟨_, _, _, by assumption, by omega, rfl⟩
    | (refine ⟨_, _, _, by assumption, fun h0 => ?_, rfl⟩
       have := hv (by omega)
       rw [wr64 (by omega) (by omega)]; omega)
end Go.Proofs.R1

/- Entries: small functions. -/
set_option linter.unusedVariables false
set_option linter.unusedSimpArgs false
set_option maxRecDepth 8000
set_option maxHeartbeats 2000000
namespace Go.Proofs.R1
open Go Go.Abs

abbrev Dl := Int × Int
def dlD (d : Dl) : List D := [i64 d.1, i64 d.2]
def dlV (d : Dl) : Bool := decide (0 ≤ d.1) && decide (d.1 ≤ d.2) && decide (d.2 ≤ 1000000)
abbrev dlC : Con where
  α := Dl
  kinds := [false]
  args := fun a => [.d (.agg (dlD a))]
  pre := fun _ => True
  post := fun a r => r = ⟨[.d (bl (dlV a))], []⟩
  clean := true
theorem dlP_ok : CallOk Try.prog 44 dlC := by
  refine ok_of_body' 18 1 Try.func44 rfl (by decide) Try.ntmps44 (by intro a h; exact ⟨rfl, rfl⟩) (by decide) (by rintro _ a r _ rfl; rfl) ?_
  rintro ⟨a, b⟩ -
  simp only [dlC, dlD]
  simp only [initE, initMm, List.length_cons, List.length_nil, Nat.reduceAdd]
  repeat' (first
    | (with_reducible refine aw_seq ?_)
    | (with_reducible refine kont_in ?_; simp only [go_sem, reduceIte, Nat.reduceLT, Nat.reduceEqDiff, Nat.reduceAdd, Nat.reduceMul, Nat.reduceSub, Nat.reduceLeDiff, reduceCtorEq])
    | (with_reducible refine dKont_in ?_; simp only [go_sem, reduceIte, Nat.reduceLT, Nat.reduceEqDiff, Nat.reduceAdd, Nat.reduceMul, Nat.reduceSub, Nat.reduceLeDiff, reduceCtorEq])
    | (with_reducible refine aw_drw (by kernel_rfl) kOk_nil kDet_nil ?_; simp only [go_sem, reduceIte, Nat.reduceLT, Nat.reduceEqDiff, Nat.reduceAdd, Nat.reduceMul, Nat.reduceSub, Nat.reduceLeDiff, reduceCtorEq])
    | (with_reducible refine aw_reg kOk_nil ?_; simp only [go_sem, reduceIte, Nat.reduceLT, Nat.reduceEqDiff, Nat.reduceAdd, Nat.reduceMul, Nat.reduceSub, Nat.reduceLeDiff, reduceCtorEq])
    | (with_reducible refine aw_if ?_; simp only [go_sem, reduceIte, Nat.reduceLT, Nat.reduceEqDiff, Nat.reduceAdd, Nat.reduceMul, Nat.reduceSub, Nat.reduceLeDiff, reduceCtorEq])
    | (with_reducible refine aw_block ?_)
    | (with_reducible refine aw_ret ?_; (try simp only [thenQ, blockQ]); refine aw_ret' ?_; simp only [go_sem, reduceIte, Nat.reduceLT, Nat.reduceEqDiff, Nat.reduceAdd, Nat.reduceMul, Nat.reduceSub, Nat.reduceLeDiff, reduceCtorEq])
    | (with_reducible refine aw_exit ?_; simp only [thenQ, blockQ, reduceIte, Nat.reduceEqDiff])
    | (with_reducible refine aw_skip ?_; simp only [thenQ, blockQ])
    | (with_reducible refine gate_intro (fun h => ?_) (fun h => ?_) <;> simp only [h, go_sem, reduceIte, Nat.reduceLT, Nat.reduceEqDiff, Nat.reduceAdd, Nat.reduceMul, Nat.reduceSub, Nat.reduceLeDiff, reduceCtorEq] <;> (try simp only [decide_eq_true_eq, decide_eq_false_iff_not, Bool.not_true] at h))
    | (with_reducible refine chk_in (by kernel_rfl) ?_)
    | (with_reducible refine And.intro (And.intro (by omega) (by omega)) ?_)
    | (with_reducible refine And.intro (by omega) ?_)
    | (rw [get_in]; rotate_left; omega; simp only [go_sem, reduceIte, Nat.reduceLT, Nat.reduceEqDiff, Nat.reduceAdd, Nat.reduceMul, Nat.reduceSub, Nat.reduceLeDiff, reduceCtorEq])
    | fail)
  all_goals (simp only [dlV, ge_iff_le] at *; simp [*])
theorem dlR_ok : CallOk Try.prog 42 dlC := by
  refine ok_of_body' 18 1 Try.func42 rfl (by decide) Try.ntmps42 (by intro a h; exact ⟨rfl, rfl⟩) (by decide) (by rintro _ a r _ rfl; rfl) ?_
  rintro ⟨a, b⟩ -
  simp only [dlC, dlD]
  simp only [initE, initMm, List.length_cons, List.length_nil, Nat.reduceAdd]
  repeat' (first
    | (with_reducible refine aw_seq ?_)
    | (with_reducible refine kont_in ?_; simp only [go_sem, reduceIte, Nat.reduceLT, Nat.reduceEqDiff, Nat.reduceAdd, Nat.reduceMul, Nat.reduceSub, Nat.reduceLeDiff, reduceCtorEq])
    | (with_reducible refine dKont_in ?_; simp only [go_sem, reduceIte, Nat.reduceLT, Nat.reduceEqDiff, Nat.reduceAdd, Nat.reduceMul, Nat.reduceSub, Nat.reduceLeDiff, reduceCtorEq])
    | (with_reducible refine aw_drw (by kernel_rfl) kOk_nil kDet_nil ?_; simp only [go_sem, reduceIte, Nat.reduceLT, Nat.reduceEqDiff, Nat.reduceAdd, Nat.reduceMul, Nat.reduceSub, Nat.reduceLeDiff, reduceCtorEq])
    | (with_reducible refine aw_reg kOk_nil ?_; simp only [go_sem, reduceIte, Nat.reduceLT, Nat.reduceEqDiff, Nat.reduceAdd, Nat.reduceMul, Nat.reduceSub, Nat.reduceLeDiff, reduceCtorEq])
    | (with_reducible refine aw_if ?_; simp only [go_sem, reduceIte, Nat.reduceLT, Nat.reduceEqDiff, Nat.reduceAdd, Nat.reduceMul, Nat.reduceSub, Nat.reduceLeDiff, reduceCtorEq])
    | (with_reducible refine aw_block ?_)
    | (with_reducible refine aw_ret ?_; (try simp only [thenQ, blockQ]); refine aw_ret' ?_; simp only [go_sem, reduceIte, Nat.reduceLT, Nat.reduceEqDiff, Nat.reduceAdd, Nat.reduceMul, Nat.reduceSub, Nat.reduceLeDiff, reduceCtorEq])
    | (with_reducible refine aw_exit ?_; simp only [thenQ, blockQ, reduceIte, Nat.reduceEqDiff])
    | (with_reducible refine aw_skip ?_; simp only [thenQ, blockQ])
    | (with_reducible refine gate_intro (fun h => ?_) (fun h => ?_) <;> simp only [h, go_sem, reduceIte, Nat.reduceLT, Nat.reduceEqDiff, Nat.reduceAdd, Nat.reduceMul, Nat.reduceSub, Nat.reduceLeDiff, reduceCtorEq] <;> (try simp only [decide_eq_true_eq, decide_eq_false_iff_not, Bool.not_true] at h))
    | (with_reducible refine chk_in (by kernel_rfl) ?_)
    | (with_reducible refine And.intro (And.intro (by omega) (by omega)) ?_)
    | (with_reducible refine And.intro (by omega) ?_)
    | (rw [get_in]; rotate_left; omega; simp only [go_sem, reduceIte, Nat.reduceLT, Nat.reduceEqDiff, Nat.reduceAdd, Nat.reduceMul, Nat.reduceSub, Nat.reduceLeDiff, reduceCtorEq])
    | fail)
  all_goals (simp only [dlV, ge_iff_le] at *; simp [*])
def ceV (c : Int) : Bool := decide (1 ≤ c) && decide (c ≤ 99)
abbrev ceC : Con where
  α := Int
  kinds := [false]
  args := fun a => [.d (i64 a)]
  pre := fun _ => True
  post := fun a r => r = ⟨[.d (bl (ceV a))], []⟩
  clean := true
theorem ce_ok : CallOk Try.prog 46 ceC := by
  refine ok_of_body' 9 1 Try.func46 rfl (by decide) Try.ntmps46 (by intro a h; exact ⟨rfl, rfl⟩) (by decide) (by rintro _ a r _ rfl; rfl) ?_
  rintro a -
  simp only [ceC]
  simp only [initE, initMm, List.length_cons, List.length_nil, Nat.reduceAdd]
  repeat' (first
    | (with_reducible refine aw_seq ?_)
    | (with_reducible refine kont_in ?_; simp only [go_sem, reduceIte, Nat.reduceLT, Nat.reduceEqDiff, Nat.reduceAdd, Nat.reduceMul, Nat.reduceSub, Nat.reduceLeDiff, reduceCtorEq])
    | (with_reducible refine dKont_in ?_; simp only [go_sem, reduceIte, Nat.reduceLT, Nat.reduceEqDiff, Nat.reduceAdd, Nat.reduceMul, Nat.reduceSub, Nat.reduceLeDiff, reduceCtorEq])
    | (with_reducible refine aw_drw (by kernel_rfl) kOk_nil kDet_nil ?_; simp only [go_sem, reduceIte, Nat.reduceLT, Nat.reduceEqDiff, Nat.reduceAdd, Nat.reduceMul, Nat.reduceSub, Nat.reduceLeDiff, reduceCtorEq])
    | (with_reducible refine aw_reg kOk_nil ?_; simp only [go_sem, reduceIte, Nat.reduceLT, Nat.reduceEqDiff, Nat.reduceAdd, Nat.reduceMul, Nat.reduceSub, Nat.reduceLeDiff, reduceCtorEq])
    | (with_reducible refine aw_if ?_; simp only [go_sem, reduceIte, Nat.reduceLT, Nat.reduceEqDiff, Nat.reduceAdd, Nat.reduceMul, Nat.reduceSub, Nat.reduceLeDiff, reduceCtorEq])
    | (with_reducible refine aw_block ?_)
    | (with_reducible refine aw_ret ?_; (try simp only [thenQ, blockQ]); refine aw_ret' ?_; simp only [go_sem, reduceIte, Nat.reduceLT, Nat.reduceEqDiff, Nat.reduceAdd, Nat.reduceMul, Nat.reduceSub, Nat.reduceLeDiff, reduceCtorEq])
    | (with_reducible refine aw_exit ?_; simp only [thenQ, blockQ, reduceIte, Nat.reduceEqDiff])
    | (with_reducible refine aw_skip ?_; simp only [thenQ, blockQ])
    | (with_reducible refine gate_intro (fun h => ?_) (fun h => ?_) <;> simp only [h, go_sem, reduceIte, Nat.reduceLT, Nat.reduceEqDiff, Nat.reduceAdd, Nat.reduceMul, Nat.reduceSub, Nat.reduceLeDiff, reduceCtorEq] <;> (try simp only [decide_eq_true_eq, decide_eq_false_iff_not, Bool.not_true] at h))
    | (with_reducible refine chk_in (by kernel_rfl) ?_)
    | (with_reducible refine And.intro (And.intro (by omega) (by omega)) ?_)
    | (with_reducible refine And.intro (by omega) ?_)
    | (rw [get_in]; rotate_left; omega; simp only [go_sem, reduceIte, Nat.reduceLT, Nat.reduceEqDiff, Nat.reduceAdd, Nat.reduceMul, Nat.reduceSub, Nat.reduceLeDiff, reduceCtorEq])
    | fail)
  all_goals (simp only [ceV, ge_iff_le] at *; simp [*])
theorem ce_call {K : Kt} (hk : K 46 = some ceC) {np fid : Nat} {M : Mem} {nx : D → Mem → Prop} (a : Int) (hf : M fid = none) (hn : nx (bl (ceV a)) M) : semCall K np 46 [i64 a] M fid nx :=
  call_fn hk rfl rfl (fun _ _ h => h) a rfl trivial hf hn
def enD (e : En) : List D := [i64 e.1, i64 e.2.1, i64 e.2.2]
def enV (e : En) : Bool := decide (0 ≤ e.1) && decide (e.1 ≤ 9999) && ceV e.2.1 && decide (0 ≤ e.2.2) && decide (e.2.2 ≤ 31)
abbrev enC : Con where
  α := En
  kinds := [false]
  args := fun a => [.d (.agg (enD a))]
  pre := fun _ => True
  post := fun a r => r = ⟨[.d (bl (enV a))], []⟩
  clean := true
theorem enP_ok : CallOk Try.prog 45 enC := by
  refine ok_of_body' 26 1 Try.func45 rfl (by decide) Try.ntmps45 (by intro a h; exact ⟨rfl, rfl⟩) (by decide) (by rintro _ a r _ rfl; rfl) ?_
  rintro ⟨a, b, c⟩ -
  simp only [enC, enD]
  simp only [initE, initMm, List.length_cons, List.length_nil, Nat.reduceAdd]
  have s1 : ceC.srt = none := rfl
  have c1 : ceC.clean = true := rfl
  have hK : KOk Try.prog (kOf [(46, ceC)]) := kOk_cons ce_ok kOk_nil
  have hD : KDet (kOf [(46, ceC)]) := kDet_cons (fun _ _ => ⟨_, rfl, by simp, fun _ h => h⟩) kDet_nil
  repeat' (first
    | (with_reducible refine aw_seq ?_)
    | (with_reducible refine kont_in ?_; simp only [go_sem, reduceIte, Nat.reduceLT, Nat.reduceEqDiff, Nat.reduceAdd, Nat.reduceMul, Nat.reduceSub, Nat.reduceLeDiff, reduceCtorEq, s1, c1])
    | (with_reducible refine dKont_in ?_; simp only [go_sem, reduceIte, Nat.reduceLT, Nat.reduceEqDiff, Nat.reduceAdd, Nat.reduceMul, Nat.reduceSub, Nat.reduceLeDiff, reduceCtorEq, s1, c1])
    | (with_reducible refine aw_drw (by kernel_rfl) hK hD ?_; simp only [go_sem, reduceIte, Nat.reduceLT, Nat.reduceEqDiff, Nat.reduceAdd, Nat.reduceMul, Nat.reduceSub, Nat.reduceLeDiff, reduceCtorEq, s1, c1])
    | (with_reducible refine aw_reg hK ?_; simp only [go_sem, reduceIte, Nat.reduceLT, Nat.reduceEqDiff, Nat.reduceAdd, Nat.reduceMul, Nat.reduceSub, Nat.reduceLeDiff, reduceCtorEq, s1, c1])
    | (with_reducible refine aw_if ?_; simp only [go_sem, reduceIte, Nat.reduceLT, Nat.reduceEqDiff, Nat.reduceAdd, Nat.reduceMul, Nat.reduceSub, Nat.reduceLeDiff, reduceCtorEq, s1, c1])
    | (with_reducible refine aw_block ?_)
    | (with_reducible refine aw_ret ?_; (try simp only [thenQ, blockQ]); refine aw_ret' ?_; simp only [go_sem, reduceIte, Nat.reduceLT, Nat.reduceEqDiff, Nat.reduceAdd, Nat.reduceMul, Nat.reduceSub, Nat.reduceLeDiff, reduceCtorEq, s1, c1])
    | (with_reducible refine aw_exit ?_; simp only [thenQ, blockQ, reduceIte, Nat.reduceEqDiff])
    | (with_reducible refine aw_skip ?_; simp only [thenQ, blockQ])
    | (with_reducible refine gate_intro (fun h => ?_) (fun h => ?_) <;> simp only [h, go_sem, reduceIte, Nat.reduceLT, Nat.reduceEqDiff, Nat.reduceAdd, Nat.reduceMul, Nat.reduceSub, Nat.reduceLeDiff, reduceCtorEq, s1, c1] <;> (try simp only [decide_eq_true_eq, decide_eq_false_iff_not, Bool.not_true] at h))
    | (with_reducible refine chk_in (by kernel_rfl) ?_)
    | (with_reducible refine And.intro (And.intro (by omega) (by omega)) ?_)
    | (with_reducible refine And.intro (by omega) ?_)
    | (refine ce_call rfl b rfl ?_)
    | (rw [get_in]; rotate_left; omega; simp only [go_sem, reduceIte, Nat.reduceLT, Nat.reduceEqDiff, Nat.reduceAdd, Nat.reduceMul, Nat.reduceSub, Nat.reduceLeDiff, reduceCtorEq, s1, c1])
    | fail)
  all_goals (simp only [enV, ge_iff_le] at *; simp [*])
theorem enR_ok : CallOk Try.prog 31 enC := by
  refine ok_of_body' 31 1 Try.func31 rfl (by decide) Try.ntmps31 (by intro a h; exact ⟨rfl, rfl⟩) (by decide) (by rintro _ a r _ rfl; rfl) ?_
  rintro ⟨a, b, c⟩ -
  simp only [enC, enD]
  simp only [initE, initMm, List.length_cons, List.length_nil, Nat.reduceAdd]
  repeat' (first
    | (with_reducible refine aw_seq ?_)
    | (with_reducible refine kont_in ?_; simp only [go_sem, reduceIte, Nat.reduceLT, Nat.reduceEqDiff, Nat.reduceAdd, Nat.reduceMul, Nat.reduceSub, Nat.reduceLeDiff, reduceCtorEq])
    | (with_reducible refine dKont_in ?_; simp only [go_sem, reduceIte, Nat.reduceLT, Nat.reduceEqDiff, Nat.reduceAdd, Nat.reduceMul, Nat.reduceSub, Nat.reduceLeDiff, reduceCtorEq])
    | (with_reducible refine aw_drw (by kernel_rfl) kOk_nil kDet_nil ?_; simp only [go_sem, reduceIte, Nat.reduceLT, Nat.reduceEqDiff, Nat.reduceAdd, Nat.reduceMul, Nat.reduceSub, Nat.reduceLeDiff, reduceCtorEq])
    | (with_reducible refine aw_reg kOk_nil ?_; simp only [go_sem, reduceIte, Nat.reduceLT, Nat.reduceEqDiff, Nat.reduceAdd, Nat.reduceMul, Nat.reduceSub, Nat.reduceLeDiff, reduceCtorEq])
    | (with_reducible refine aw_if ?_; simp only [go_sem, reduceIte, Nat.reduceLT, Nat.reduceEqDiff, Nat.reduceAdd, Nat.reduceMul, Nat.reduceSub, Nat.reduceLeDiff, reduceCtorEq])
    | (with_reducible refine aw_block ?_)
    | (with_reducible refine aw_ret ?_; (try simp only [thenQ, blockQ]); refine aw_ret' ?_; simp only [go_sem, reduceIte, Nat.reduceLT, Nat.reduceEqDiff, Nat.reduceAdd, Nat.reduceMul, Nat.reduceSub, Nat.reduceLeDiff, reduceCtorEq])
    | (with_reducible refine aw_exit ?_; simp only [thenQ, blockQ, reduceIte, Nat.reduceEqDiff])
    | (with_reducible refine aw_skip ?_; simp only [thenQ, blockQ])
    | (with_reducible refine gate_intro (fun h => ?_) (fun h => ?_) <;> simp only [h, go_sem, reduceIte, Nat.reduceLT, Nat.reduceEqDiff, Nat.reduceAdd, Nat.reduceMul, Nat.reduceSub, Nat.reduceLeDiff, reduceCtorEq] <;> (try simp only [decide_eq_true_eq, decide_eq_false_iff_not, Bool.not_true] at h))
    | (with_reducible refine chk_in (by kernel_rfl) ?_)
    | (with_reducible refine And.intro (And.intro (by omega) (by omega)) ?_)
    | (with_reducible refine And.intro (by omega) ?_)
    | (rw [get_in]; rotate_left; omega; simp only [go_sem, reduceIte, Nat.reduceLT, Nat.reduceEqDiff, Nat.reduceAdd, Nat.reduceMul, Nat.reduceSub, Nat.reduceLeDiff, reduceCtorEq])
    | fail)
  all_goals (simp only [enV, ceV, ge_iff_le] at *; simp [*])
end Go.Proofs.R1

/- Entries: their order; valid lists; searches. -/
set_option linter.unusedVariables false
set_option linter.unusedSimpArgs false
set_option maxRecDepth 8000
set_option maxHeartbeats 4000000
namespace Go.Proofs.R1
open Go Go.Abs

abbrev Er := En × Bool
def erD (e : Er) : List D := [i64 e.1.1, i64 e.1.2.1, i64 e.1.2.2, bl e.2]
def erR (l : List Er) : List (List D) := l.map erD
@[go_sem] theorem erR_len (l : List Er) : (erR l).length = l.length := by simp [erR]
@[go_sem] theorem erR_get (l : List Er) (n : Nat) : (erR l)[n]? = (l[n]?).map erD := by simp [erR]
@[go_sem] theorem erR_app (l r : List Er) : erR l ++ erR r = erR (l ++ r) := by simp [erR]
@[go_sem] theorem erR_app1 (l : List Er) (e : Er) : erR l ++ [erD e] = erR (l ++ [e]) := by simp [erR]
@[go_sem] theorem erR_take (l : List Er) (n : Nat) : (erR l).take n = erR (l.take n) := by simp [erR, List.map_take]
@[go_sem] theorem erR_drop (l : List Er) (n : Nat) : (erR l).drop n = erR (l.drop n) := by simp [erR, List.map_drop]
@[go_sem] theorem erD_len (s : Er) : (erD s).length = 4 := rfl
@[go_sem] theorem erD_all (s : Er) : (erD s).all isCell = true := rfl
@[go_sem] theorem erD_take (s : Er) : (erD s).take 4 = erD s := rfl
@[go_sem] theorem erD_take3 (s : Er) : (erD s).take 3 = enD s.1 := rfl
@[go_sem] theorem erD_drop (s : Er) : (erD s).drop 4 = [] := rfl
@[go_sem] theorem erD_frz (np : Nat) (M : Mem) (s : Er) : frzL np M (erD s) = M := rfl
@[go_sem] theorem erD_fz (M : Mem) (b : Bool) (s : Er) : mapO (fz M b 1) (erD s) = some (erD s) := rfl
@[go_sem] theorem erD_nf (np : Nat) (M : Mem) (s : Er) : (erD s).all (nf0 np M) = true := rfl
@[go_sem] theorem erD_ids (n : Nat) (M : Mem) (s : Er) : (erD s).flatMap (ids M n) = [] := by cases n <;> rfl
/-- The order: by candidate, then by paper. -/
def cmpE (a b : En) : Int := if ordI a.1 b.1 ≠ 0 then ordI a.1 b.1 else ordI a.2.2 b.2.2
abbrev cmpEC : Con where
  α := Er × Er
  kinds := [false, false]
  args := fun a => [.d (.agg (erD a.1)), .d (.agg (erD a.2))]
  pre := fun _ => True
  post := fun a r => r = ⟨[.d (i64 (cmpE a.1.1 a.2.1))], []⟩
  clean := true
theorem cmpE_ok : CallOk Try.prog 48 cmpEC := by
  refine ok_of_body' 21 2 Try.func48 rfl (by decide) Try.ntmps48 (by intro a h; exact ⟨rfl, rfl⟩) (by decide) (by rintro _ a r _ rfl; rfl) ?_
  rintro ⟨⟨⟨a1, a2, a3⟩, a4⟩, ⟨⟨b1, b2, b3⟩, b4⟩⟩ -
  simp only [cmpEC, erD]
  simp only [initE, initMm, List.length_cons, List.length_nil, Nat.reduceAdd]
  have s1 : orderC.srt = none := rfl
  have s2 : orC.srt = none := rfl
  have c1 : orderC.clean = true := rfl
  have c2 : orC.clean = true := rfl
  have hK : KOk Try.prog (kOf [(64, orderC), (63, orC)]) := kOk_cons cmp_ok (kOk_cons or_ok kOk_nil)
  have hD : KDet (kOf [(64, orderC), (63, orC)]) := kDet_cons (fun _ _ => ⟨_, rfl, by simp, fun _ h => h⟩) (kDet_cons (fun _ _ => ⟨_, rfl, by simp, fun _ h => h⟩) kDet_nil)
  repeat' (first
    | (with_reducible refine aw_seq ?_)
    | (with_reducible refine kont_in ?_; simp only [go_sem, reduceIte, Nat.reduceLT, Nat.reduceEqDiff, Nat.reduceAdd, Nat.reduceMul, Nat.reduceSub, Nat.reduceLeDiff, reduceCtorEq, s1, s2, c1, c2])
    | (with_reducible refine dKont_in ?_; simp only [go_sem, reduceIte, Nat.reduceLT, Nat.reduceEqDiff, Nat.reduceAdd, Nat.reduceMul, Nat.reduceSub, Nat.reduceLeDiff, reduceCtorEq, s1, s2, c1, c2])
    | (with_reducible refine aw_drw (by kernel_rfl) hK hD ?_; simp only [go_sem, reduceIte, Nat.reduceLT, Nat.reduceEqDiff, Nat.reduceAdd, Nat.reduceMul, Nat.reduceSub, Nat.reduceLeDiff, reduceCtorEq, s1, s2, c1, c2])
    | (with_reducible refine aw_reg hK ?_; simp only [go_sem, reduceIte, Nat.reduceLT, Nat.reduceEqDiff, Nat.reduceAdd, Nat.reduceMul, Nat.reduceSub, Nat.reduceLeDiff, reduceCtorEq, s1, s2, c1, c2])
    | (with_reducible refine aw_if ?_; simp only [go_sem, reduceIte, Nat.reduceLT, Nat.reduceEqDiff, Nat.reduceAdd, Nat.reduceMul, Nat.reduceSub, Nat.reduceLeDiff, reduceCtorEq, s1, s2, c1, c2])
    | (with_reducible refine aw_block ?_)
    | (with_reducible refine aw_ret ?_; (try simp only [thenQ, blockQ]); refine aw_ret' ?_; simp only [go_sem, reduceIte, Nat.reduceLT, Nat.reduceEqDiff, Nat.reduceAdd, Nat.reduceMul, Nat.reduceSub, Nat.reduceLeDiff, reduceCtorEq, s1, s2, c1, c2])
    | (with_reducible refine aw_exit ?_; simp only [thenQ, blockQ, reduceIte, Nat.reduceEqDiff])
    | (with_reducible refine aw_skip ?_; simp only [thenQ, blockQ])
    | (with_reducible refine gate_intro (fun h => ?_) (fun h => ?_) <;> simp only [h, go_sem, reduceIte, Nat.reduceLT, Nat.reduceEqDiff, Nat.reduceAdd, Nat.reduceMul, Nat.reduceSub, Nat.reduceLeDiff, reduceCtorEq, s1, s2, c1, c2] <;> (try simp only [decide_eq_true_eq, decide_eq_false_iff_not, Bool.not_true] at h))
    | (with_reducible refine chk_in (by kernel_rfl) ?_)
    | (with_reducible refine And.intro (And.intro (by omega) (by omega)) ?_)
    | (with_reducible refine And.intro (by omega) ?_)
    | (refine cmp_call rfl rfl ?_)
    | (refine or_call (l := [_, _]) rfl rfl (by simp) rfl ?_)
    | (rw [get_in]; rotate_left; omega; simp only [go_sem, reduceIte, Nat.reduceLT, Nat.reduceEqDiff, Nat.reduceAdd, Nat.reduceMul, Nat.reduceSub, Nat.reduceLeDiff, reduceCtorEq, s1, s2, c1, c2])
    | fail)
  all_goals (simp [firstNZ, cmpE]; (repeat' split) <;> simp_all)
abbrev befC : Con where
  α := En × En
  kinds := [false, false]
  args := fun a => [.d (.agg (enD a.1)), .d (.agg (enD a.2))]
  pre := fun _ => True
  post := fun a r => r = ⟨[.d (bl (decide (cmpE a.1 a.2 < 0)))], []⟩
  clean := true
theorem cmpE_lt {a b : En} : cmpE a b < 0 ↔ a.1 < b.1 ∨ a.1 = b.1 ∧ a.2.2 < b.2.2 := by
  unfold cmpE ordI
  (repeat' split) <;> omega
theorem bef_ok : CallOk Try.prog 67 befC := by
  refine ok_of_body' 24 2 Try.func67 rfl (by decide) Try.ntmps67 (by intro a h; exact ⟨rfl, rfl⟩) (by decide) (by rintro _ a r _ rfl; rfl) ?_
  rintro ⟨⟨a1, a2, a3⟩, ⟨b1, b2, b3⟩⟩ -
  simp only [befC, enD]
  simp only [initE, initMm, List.length_cons, List.length_nil, Nat.reduceAdd]
  repeat' (first
    | (with_reducible refine aw_seq ?_)
    | (with_reducible refine kont_in ?_; simp only [go_sem, reduceIte, Nat.reduceLT, Nat.reduceEqDiff, Nat.reduceAdd, Nat.reduceMul, Nat.reduceSub, Nat.reduceLeDiff, reduceCtorEq])
    | (with_reducible refine dKont_in ?_; simp only [go_sem, reduceIte, Nat.reduceLT, Nat.reduceEqDiff, Nat.reduceAdd, Nat.reduceMul, Nat.reduceSub, Nat.reduceLeDiff, reduceCtorEq])
    | (with_reducible refine aw_drw (by kernel_rfl) kOk_nil kDet_nil ?_; simp only [go_sem, reduceIte, Nat.reduceLT, Nat.reduceEqDiff, Nat.reduceAdd, Nat.reduceMul, Nat.reduceSub, Nat.reduceLeDiff, reduceCtorEq])
    | (with_reducible refine aw_reg kOk_nil ?_; simp only [go_sem, reduceIte, Nat.reduceLT, Nat.reduceEqDiff, Nat.reduceAdd, Nat.reduceMul, Nat.reduceSub, Nat.reduceLeDiff, reduceCtorEq])
    | (with_reducible refine aw_if ?_; simp only [go_sem, reduceIte, Nat.reduceLT, Nat.reduceEqDiff, Nat.reduceAdd, Nat.reduceMul, Nat.reduceSub, Nat.reduceLeDiff, reduceCtorEq])
    | (with_reducible refine aw_block ?_)
    | (with_reducible refine aw_ret ?_; (try simp only [thenQ, blockQ]); refine aw_ret' ?_; simp only [go_sem, reduceIte, Nat.reduceLT, Nat.reduceEqDiff, Nat.reduceAdd, Nat.reduceMul, Nat.reduceSub, Nat.reduceLeDiff, reduceCtorEq])
    | (with_reducible refine aw_exit ?_; simp only [thenQ, blockQ, reduceIte, Nat.reduceEqDiff])
    | (with_reducible refine aw_skip ?_; simp only [thenQ, blockQ])
    | (with_reducible refine gate_intro (fun h => ?_) (fun h => ?_) <;> simp only [h, go_sem, reduceIte, Nat.reduceLT, Nat.reduceEqDiff, Nat.reduceAdd, Nat.reduceMul, Nat.reduceSub, Nat.reduceLeDiff, reduceCtorEq] <;> (try simp only [decide_eq_true_eq, decide_eq_false_iff_not, Bool.not_true] at h))
    | (with_reducible refine chk_in (by kernel_rfl) ?_)
    | (with_reducible refine And.intro (And.intro (by omega) (by omega)) ?_)
    | (with_reducible refine And.intro (by omega) ?_)
    | (rw [get_in]; rotate_left; omega; simp only [go_sem, reduceIte, Nat.reduceLT, Nat.reduceEqDiff, Nat.reduceAdd, Nat.reduceMul, Nat.reduceSub, Nat.reduceLeDiff, reduceCtorEq])
    | fail)
  all_goals (simp only [cmpE_lt]; (try simp only [beq_iff_eq, beq_eq_false_iff_ne, ne_eq] at *); simp [*])
end Go.Proofs.R1

/- Entries: valid lists, places, and what an event does to a list, in plain words. -/
set_option linter.unusedVariables false
set_option linter.unusedSimpArgs false
set_option maxRecDepth 8000
set_option maxHeartbeats 2000000
namespace Go.Proofs.R1
open Go Go.Abs

theorem cmpE_gt {a b : En} : 0 < cmpE a b ↔ cmpE b a < 0 := by
  rw [cmpE_lt]; unfold cmpE ordI
  (repeat' split) <;> omega
theorem cmpE_eq {a b : En} : cmpE a b = 0 ↔ a.1 = b.1 ∧ a.2.2 = b.2.2 := by
  unfold cmpE ordI
  (repeat' split) <;> omega
theorem cmpE_trans {a b c : En} (h : cmpE a b < 0) (k : cmpE b c < 0) : cmpE a c < 0 := by
  rw [cmpE_lt] at *; omega
theorem cmpE_irr (a : En) : ¬ cmpE a a < 0 := by rw [cmpE_lt]; omega
/-- In order. -/
abbrev AscE (l : List Er) : Prop := l.Pairwise fun a b => cmpE a.1 b.1 < 0
/-- A valid list. -/
def vaL (l : List Er) : Bool := decide (l.length ≤ 300 ∧ (∀ e, e ∈ l → enV e.1 = true) ∧ AscE l)
theorem vaL_iff {l : List Er} : vaL l = true ↔ l.length ≤ 300 ∧ (∀ e, e ∈ l → enV e.1 = true) ∧ AscE l := by simp [vaL]
/-- How many stand ahead. -/
def posE (l : List Er) (x : En) : Nat := l.findIdx fun e => decide (¬ cmpE e.1 x < 0)
theorem posE_le (l : List Er) (x : En) : posE l x ≤ l.length := List.findIdx_le_length
theorem posE_lo {l : List Er} {x : En} {k : Nat} {e : Er} (hk : k < posE l x) (he : l[k]? = some e) : cmpE e.1 x < 0 := by
  have hl : k < l.length := (List.getElem?_eq_some_iff.1 he).1
  have := List.not_of_lt_findIdx hk
  rw [List.getElem?_eq_getElem hl] at he
  cases he
  simpa using this
theorem posE_at {l : List Er} {x : En} {e : Er} (he : l[posE l x]? = some e) : ¬ cmpE e.1 x < 0 := by
  obtain ⟨hl, rfl⟩ := List.getElem?_eq_some_iff.1 he
  have := List.findIdx_getElem (w := hl)
  exact of_decide_eq_true this
theorem posE_is {l : List Er} {x : En} {p : Nat} (hp : p ≤ l.length) (hlo : ∀ k e, k < p → l[k]? = some e → cmpE e.1 x < 0) (hat : ∀ e, l[p]? = some e → ¬ cmpE e.1 x < 0) : posE l x = p := by
  rcases Nat.lt_trichotomy (posE l x) p with h | h | h
  · exact absurd (hlo _ _ h (List.getElem?_eq_getElem (by omega))) (posE_at (List.getElem?_eq_getElem (by omega)))
  · exact h
  · have hl := posE_le l x
    exact absurd (posE_lo h (List.getElem?_eq_getElem (by omega))) (hat _ (List.getElem?_eq_getElem (by omega)))
theorem asc_lt {l : List Er} (h : AscE l) {i j : Nat} {a b : Er} (hij : i < j) (ha : l[i]? = some a) (hb : l[j]? = some b) : cmpE a.1 b.1 < 0 := by
  obtain ⟨hi, rfl⟩ := List.getElem?_eq_some_iff.1 ha
  obtain ⟨hj, rfl⟩ := List.getElem?_eq_some_iff.1 hb
  exact List.pairwise_iff_getElem.1 h i j hi hj hij
theorem posE_hi {l : List Er} (h : AscE l) {x : En} {k : Nat} {e : Er} (hk : posE l x ≤ k) (he : l[k]? = some e) : ¬ cmpE e.1 x < 0 := by
  rcases Nat.lt_or_ge (posE l x) k with h1 | h1
  · intro h2
    have hl : k < l.length := (List.getElem?_eq_some_iff.1 he).1
    have h3 := List.getElem?_eq_getElem (l := l) (i := posE l x) (by omega)
    exact posE_at h3 (cmpE_trans (asc_lt h h1 h3 he) h2)
  · have : k = posE l x := by omega
    subst this; exact posE_at he
/-- The one that stands for a candidate and a paper. -/
def atE (l : List Er) (x : En) : Option Er := (l[posE l x]?).filter fun e => decide (cmpE e.1 x = 0)
theorem atE_some {l : List Er} {x : En} {r : Er} : atE l x = some r ↔ l[posE l x]? = some r ∧ cmpE r.1 x = 0 := by
  unfold atE
  rw [Option.filter_eq_some_iff]; simp
theorem atE_none {l : List Er} {x : En} (h : AscE l) (hn : atE l x = none) {e : Er} (he : e ∈ l) : cmpE e.1 x ≠ 0 := by
  intro h0
  obtain ⟨k, hk⟩ := List.getElem?_of_mem he
  have hp : posE l x = k := posE_is (Nat.le_of_lt (List.getElem?_eq_some_iff.1 hk).1) (fun j f hj hf => by
    have := asc_lt h hj hf hk
    rw [cmpE_eq] at h0; rw [cmpE_lt] at *; omega) (fun f hf => by rw [hk] at hf; cases hf; omega)
  have : atE l x = some e := atE_some.2 ⟨by rw [hp]; exact hk, h0⟩
  rw [hn] at this; cases this
theorem atE_of {l : List Er} {x : En} (h : AscE l) {e : Er} {k : Nat} (hk : l[k]? = some e) (h0 : cmpE e.1 x = 0) : posE l x = k ∧ atE l x = some e := by
  have hp : posE l x = k := posE_is (Nat.le_of_lt (List.getElem?_eq_some_iff.1 hk).1) (fun j f hj hf => by
    have := asc_lt h hj hf hk
    rw [cmpE_eq] at h0; rw [cmpE_lt] at *; omega) (fun f hf => by rw [hk] at hf; cases hf; omega)
  exact ⟨hp, atE_some.2 ⟨by rw [hp]; exact hk, h0⟩⟩
/-- The enrolment that an event adds; one with another centre. -/
def apX (d : Dl) (e : EE) : Er := (e.2.2.1, decide (e.1.1 > d.1))
def modE (r : Er) (c : Int) : Er := ((r.1.1, c, r.1.2.2), r.2)
def insE (l : List Er) (x : Er) : List Er := l.take (posE l x.1) ++ [x] ++ l.drop (posE l x.1)
def outE (l : List Er) (p : Nat) : List Er := l.take p ++ l.drop (p + 1)
/-- What an event does to a valid list, if nothing is wrong with it. -/
def applyB (l : List Er) (d : Dl) (e : EE) : List Er × Int :=
  match atE l e.2.2.1 with
  | some r => if e.2.1 = 1 then ([], if r.1.2.1 = e.2.2.1.2.1 then 5 else 9)
    else if r.1.2.1 ≠ e.2.2.1.2.1 then ([], 4)
    else if e.2.1 = 2 then (outE l (posE l e.2.2.1), 0) else (l.set (posE l e.2.2.1) (modE r e.2.2.2), 0)
  | none => if e.2.1 ≠ 1 then ([], 4) else if l.length = 300 then ([], 3) else (insE l (apX d e), 0)
/-- The first three mistakes. -/
def badE (d : Dl) (e : EE) : Int :=
  if e.2.1 < 1 ∨ 3 < e.2.1 ∨ enV e.2.2.1 = false ∨ e.2.1 = 3 ∧ (ceV e.2.2.2 = false ∨ e.2.2.2 = e.2.2.1.2.1) then 2
  else if e.1.2.1 ≠ 0 ∧ e.1.2.1 ≠ e.2.2.1.2.1 then 28
  else if d.2 < e.1.1 then 27 else 0
def applyR (l : List Er) (d : Dl) (e : EE) : List Er × Int :=
  if vaL l = false ∨ dlV d = false then ([], 1)
  else if badE d e ≠ 0 then ([], badE d e) else applyB l d e
theorem insE_asc {l : List Er} (h : AscE l) {x : Er} (hn : ∀ e, e ∈ l → cmpE e.1 x.1 ≠ 0) : AscE (insE l x) := by
  have hp := posE_le l x.1
  unfold insE AscE
  rw [List.pairwise_append, List.pairwise_append]
  have ht : ∀ e, e ∈ l.take (posE l x.1) → cmpE e.1 x.1 < 0 := fun e he => by
    obtain ⟨k, hk⟩ := List.getElem?_of_mem he
    rw [List.getElem?_take] at hk
    split at hk
    · rename_i hk'; exact posE_lo hk' hk
    · cases hk
  have hd : ∀ e, e ∈ l.drop (posE l x.1) → cmpE x.1 e.1 < 0 := fun e he => by
    obtain ⟨k, hk⟩ := List.getElem?_of_mem he
    rw [List.getElem?_drop] at hk
    have h1 := posE_hi h (Nat.le_add_right _ _) hk
    have h2 := hn e (List.mem_of_getElem? hk)
    rw [← cmpE_gt]; omega
  refine ⟨⟨h.sublist (List.take_sublist _ _), by simp, fun a ha b hb => by rw [List.mem_singleton.1 hb]; exact ht a ha⟩, h.sublist (List.drop_sublist _ _), fun a ha b hb => ?_⟩
  rcases List.mem_append.1 ha with ha | ha
  · exact cmpE_trans (ht a ha) (hd b hb)
  · rw [List.mem_singleton.1 ha]; exact hd b hb
theorem outE_sub (l : List Er) (p : Nat) : (outE l p).Sublist l := by
  unfold outE
  conv => rhs; rw [← List.take_append_drop p l]
  exact List.Sublist.append (List.Sublist.refl _) (by rw [← List.drop_drop]; exact List.drop_sublist _ _)
theorem mem_insE {l : List Er} {x e : Er} : e ∈ insE l x ↔ e ∈ l ∨ e = x := by
  unfold insE
  rw [List.mem_append, List.mem_append, List.mem_singleton]
  conv => rhs; rw [← List.take_append_drop (posE l x.1) l, List.mem_append]
  constructor
  · rintro ((h | h) | h) <;> simp [h]
  · rintro ((h | h) | h) <;> simp [h]
theorem insE_len (l : List Er) (x : Er) : (insE l x).length = l.length + 1 := by
  have := posE_le l x.1
  simp [insE]; omega
/-- Setting a centre: the same as taking out and putting in. -/
theorem move_eq {l : List Er} (h : AscE l) {p : Nat} {r : Er} (hr : l[p]? = some r) (c : Int) : insE (outE l p) (modE r c) = l.set p (modE r c) := by
  obtain ⟨hp, hr'⟩ := List.getElem?_eq_some_iff.1 hr
  have hl : (outE l p).length = l.length - 1 := by simp [outE]; omega
  have hg : ∀ k, (outE l p)[k]? = if k < p then l[k]? else l[k + 1]? := fun k => by
    unfold outE
    rw [List.getElem?_append, List.getElem?_take, List.length_take, List.getElem?_drop]
    by_cases hk : k < p
    · simp [hk]; omega
    · rw [if_neg (by omega), if_neg hk, show p + 1 + (k - min p l.length) = k + 1 by omega]
  have hq : posE (outE l p) (modE r c).1 = p := posE_is (by omega) (fun k e hk he => by
      rw [hg, if_pos hk] at he
      have := asc_lt h hk he hr
      rw [cmpE_lt] at *; simpa [modE] using this) (fun e he => by
      rw [hg, if_neg (by omega)] at he
      have := asc_lt h (Nat.lt_succ_self p) hr he
      rw [cmpE_lt] at *; simp only [modE]; omega)
  unfold insE
  rw [hq]
  apply List.ext_getElem?
  intro k
  rw [List.append_assoc, List.getElem?_append, List.getElem?_take, List.length_take, hl, List.getElem?_set]
  by_cases hk : k < p
  · rw [if_pos (by omega), if_pos hk, hg, if_pos hk, if_neg (by omega)]
  · rw [if_neg (by omega)]
    by_cases hk2 : p = k
    · subst hk2
      rw [if_pos rfl, if_pos hp, show p - min p (l.length - 1) = 0 by omega]; rfl
    · rw [if_neg hk2, show k - min p (l.length - 1) = (k - p - 1) + 1 by omega, List.singleton_append, List.getElem?_cons_succ, List.getElem?_drop, hg, if_neg (by omega), show p + (k - p - 1) + 1 = k by omega]
/-- A list stays valid. -/
theorem apply_valid {l : List Er} {d : Dl} {e : EE} {m : List Er} (h : applyR l d e = (m, 0)) : vaL l = true ∧ vaL m = true := by
  unfold applyR at h
  split at h
  · simp at h
  rename_i h1
  split at h
  · rename_i h2; simp only [Prod.mk.injEq] at h; exact absurd h.2 h2
  rename_i h2
  have hv : vaL l = true := by cases hh : vaL l <;> simp_all
  refine ⟨hv, ?_⟩
  obtain ⟨hl, hen, hA⟩ := vaL_iff.1 hv
  have hb : ¬(e.2.1 < 1 ∨ 3 < e.2.1 ∨ enV e.2.2.1 = false ∨ e.2.1 = 3 ∧ (ceV e.2.2.2 = false ∨ e.2.2.2 = e.2.2.1.2.1)) := fun hh => by
    apply h2; unfold badE; rw [if_pos hh]; simp
  simp only [not_or, not_and, Bool.not_eq_false] at hb
  unfold applyB at h
  cases ha : atE l e.2.2.1 with
  | some r =>
    simp only [ha] at h
    obtain ⟨hr, h0⟩ := atE_some.1 ha
    split at h
    · split at h <;> simp at h
    rename_i hk1
    split at h
    · simp at h
    split at h
    · simp only [Prod.mk.injEq, and_true] at h
      subst h
      have hs := outE_sub l (posE l e.2.2.1)
      exact vaL_iff.2 ⟨Nat.le_trans hs.length_le hl, fun x hx => hen x (hs.subset hx), hA.sublist hs⟩
    · rename_i hk2
      simp only [Prod.mk.injEq, and_true] at h
      have hk3 : e.2.1 = 3 := by omega
      have hc := (hb.2.2.2 hk3).1
      rw [← move_eq hA hr] at h
      subst h
      have hs := outE_sub l (posE l e.2.2.1)
      obtain ⟨hp, hrm⟩ := List.getElem?_eq_some_iff.1 hr
      have hlen : (outE l (posE l e.2.2.1)).length = l.length - 1 := by simp [outE]; omega
      refine vaL_iff.2 ⟨by rw [insE_len]; omega, fun x hx => ?_, ?_⟩
      · rcases mem_insE.1 hx with hx | rfl
        · exact hen x (hs.subset hx)
        · have := hen r (List.mem_of_getElem? hr)
          simp only [enV, modE, Bool.and_eq_true] at this ⊢
          exact ⟨⟨⟨this.1.1.1, hc⟩, this.1.2⟩, this.2⟩
      · rw [move_eq hA hr]
        refine List.pairwise_iff_getElem.2 fun i j hi hj hij => ?_
        have key : ∀ k (hk : k < (l.set (posE l e.2.2.1) (modE r e.2.2.2)).length), (((l.set (posE l e.2.2.1) (modE r e.2.2.2))[k]'hk).1.1 = (l[k]'(by simpa using hk)).1.1) ∧ ((l.set (posE l e.2.2.1) (modE r e.2.2.2))[k]'hk).1.2.2 = (l[k]'(by simpa using hk)).1.2.2 := by
          intro k hk
          rw [List.getElem_set]
          split
          · rename_i hh; subst hh; rw [hrm]; simp [modE]
          · simp
        have := List.pairwise_iff_getElem.1 hA i j (by simpa using hi) (by simpa using hj) hij
        rw [cmpE_lt] at *
        rw [(key i hi).1, (key i hi).2, (key j hj).1, (key j hj).2]; exact this
  | none =>
    simp only [ha] at h
    split at h
    · simp at h
    split at h
    · simp at h
    simp only [Prod.mk.injEq, and_true] at h
    subst h
    refine vaL_iff.2 ⟨by rw [insE_len]; omega, fun x hx => ?_, insE_asc hA fun x hx => atE_none hA ha hx⟩
    rcases mem_insE.1 hx with hx | rfl
    · exact hen x hx
    · exact hb.2.2.1
end Go.Proofs.R1

/- Entries: BinarySearchFunc, Clone. -/
set_option linter.unusedVariables false
set_option linter.unusedSimpArgs false
set_option maxRecDepth 8000
set_option maxHeartbeats 4000000
namespace Go.Proofs.R1
open Go Go.Abs

theorem cmpE_call {K : Kt} (hk : K 48 = some cmpEC) {np fid : Nat} {M : Mem} {nx : D → Mem → Prop} (s t : Er) (hf : M fid = none) (hn : nx (i64 (cmpE s.1 t.1)) M) : semCall K np 48 [.agg (erD s), .agg (erD t)] M fid nx :=
  call_fn hk rfl rfl (fun _ _ h => h) (s, t) rfl trivial hf hn
abbrev bsC : Con where
  α := List Er × Er
  kinds := [false, false, false]
  args := fun a => [.d (.sl 4 (erR a.1)), .d (.agg (erD a.2)), .d (.fn 48 [] [])]
  pre := fun a => AscE a.1 ∧ a.1.length ≤ 1000000
  post := fun a r => r = ⟨[.d (i64 (posE a.1 a.2.1)), .d (bl (atE a.1 a.2.1).isSome)], []⟩
  clean := true
theorem half_shr (n : Nat) : (Int.fdiv (n : Int) (2 ^ (min (Int.toNat 1) 64))) = ((n / 2 : Nat) : Int) := by
  rw [Int.fdiv_eq_ediv_of_nonneg _ (by decide)]
  have : (2 : Int) ^ (min (Int.toNat 1) 64) = 2 := by decide
  rw [this]; rfl
theorem bs_ok : CallOk Try.prog 47 bsC := by
  refine ok_of_body' 49 3 Try.func47 rfl (by decide) Try.ntmps47 (by intro a h; exact ⟨rfl, rfl⟩) (by decide) (by rintro _ a r _ rfl; rfl) ?_
  rintro ⟨l, x⟩ ⟨hA, hl⟩
  simp only [bsC] at hA hl ⊢
  simp only [initE, initMm, List.length_cons, List.length_nil, Nat.reduceAdd]
  have s1 : cmpEC.srt = none := rfl
  have c1 : cmpEC.clean = true := rfl
  have hK : KOk Try.prog (kOf [(48, cmpEC)]) := kOk_cons cmpE_ok kOk_nil
  have hD : KDet (kOf [(48, cmpEC)]) := kDet_cons (fun _ _ => ⟨_, rfl, by simp, fun _ h => h⟩) kDet_nil
  repeat' (first
    | (with_reducible refine aw_seq ?_)
    | (with_reducible refine kont_in ?_; simp only [go_sem, reduceIte, Nat.reduceLT, Nat.reduceEqDiff, Nat.reduceAdd, Nat.reduceMul, Nat.reduceSub, Nat.reduceLeDiff, reduceCtorEq, s1, c1])
    | (with_reducible refine dKont_in ?_; simp only [go_sem, reduceIte, Nat.reduceLT, Nat.reduceEqDiff, Nat.reduceAdd, Nat.reduceMul, Nat.reduceSub, Nat.reduceLeDiff, reduceCtorEq, s1, c1])
    | (with_reducible refine aw_drw (by kernel_rfl) hK hD ?_; simp only [go_sem, reduceIte, Nat.reduceLT, Nat.reduceEqDiff, Nat.reduceAdd, Nat.reduceMul, Nat.reduceSub, Nat.reduceLeDiff, reduceCtorEq, s1, c1])
    | (with_reducible refine aw_reg hK ?_; simp only [go_sem, reduceIte, Nat.reduceLT, Nat.reduceEqDiff, Nat.reduceAdd, Nat.reduceMul, Nat.reduceSub, Nat.reduceLeDiff, reduceCtorEq, s1, c1])
    | (with_reducible refine aw_if ?_; simp only [go_sem, reduceIte, Nat.reduceLT, Nat.reduceEqDiff, Nat.reduceAdd, Nat.reduceMul, Nat.reduceSub, Nat.reduceLeDiff, reduceCtorEq, s1, c1])
    | (with_reducible refine aw_block ?_)
    | (with_reducible refine aw_ret ?_; (try simp only [thenQ, blockQ]); refine aw_ret' ?_; simp only [go_sem, reduceIte, Nat.reduceLT, Nat.reduceEqDiff, Nat.reduceAdd, Nat.reduceMul, Nat.reduceSub, Nat.reduceLeDiff, reduceCtorEq, s1, c1])
    | (with_reducible refine aw_exit ?_; simp only [thenQ, blockQ, reduceIte, Nat.reduceEqDiff])
    | (with_reducible refine aw_skip ?_; simp only [thenQ, blockQ])
    | (with_reducible refine gate_intro (fun h => ?_) (fun h => ?_) <;> simp only [h, go_sem, reduceIte, Nat.reduceLT, Nat.reduceEqDiff, Nat.reduceAdd, Nat.reduceMul, Nat.reduceSub, Nat.reduceLeDiff, reduceCtorEq, s1, c1] <;> (try simp only [decide_eq_true_eq, decide_eq_false_iff_not, Bool.not_true] at h))
    | (with_reducible refine chk_in (by kernel_rfl) ?_)
    | (with_reducible refine And.intro (And.intro (by omega) (by omega)) ?_)
    | (with_reducible refine And.intro (by omega) ?_)
    | (rw [get_in]; rotate_left; omega; simp only [go_sem, reduceIte, Nat.reduceLT, Nat.reduceEqDiff, Nat.reduceAdd, Nat.reduceMul, Nat.reduceSub, Nat.reduceLeDiff, reduceCtorEq, s1, c1])
    | fail)
  refine aw_rounds (α := Nat × Nat) (fun p => ⟨envOf [(10, i64 p.2), (9, i64 p.1), (8, i64 l.length), (4, .box 100 0), (0, .sl 4 (erR l)), (2, .fn 48 [] [])], memOf [(100, .cells (erD x))], 200⟩)
    (fun p => p.1 ≤ p.2 ∧ p.2 ≤ l.length ∧ (∀ k e, k < p.1 → l[k]? = some e → cmpE e.1 x.1 < 0) ∧ ∀ k e, p.2 ≤ k → l[k]? = some e → ¬ cmpE e.1 x.1 < 0) (fun p => p.2 - p.1) (0, l.length) ⟨Nat.zero_le _, Nat.le_refl _, by intro k e h; omega, by intro k e h h'; rw [List.getElem?_eq_none h] at h'; cases h'⟩ (weak_in [(100, _)] (by repeat' (first | trivial | constructor | rfl)) (by repeat' (first | trivial | constructor | rfl)) (by rfl) (by rfl) (by rfl)) ?_
  rintro ⟨i, j⟩ ⟨hij, hj, hlo, hhi⟩
  simp only at hij hj hlo hhi ⊢
  by_cases hlt : i < j
  · have hc : decide ((i : Int) < (j : Int)) = true := by simp <;> omega
    have hw1 : IntKind.i64.wrap ((i : Int) + (j : Int)) = ((i + j : Nat) : Int) := wr64 (by omega) (by omega)
    have hw2 : IntKind.u64.wrap ((i + j : Nat) : Int) = ((i + j : Nat) : Int) := by rw [IntKind.wrap_u64]; omega
    have hw3 : IntKind.i64.wrap (((i + j) / 2 : Nat) : Int) = (((i + j) / 2 : Nat) : Int) := wr64 (by omega) (by omega)
    have hw4 : IntKind.i64.wrap ((((i + j) / 2 : Nat) : Int) + 1) = (((i + j) / 2 + 1 : Nat) : Int) := wr64 (by omega) (by omega)
    obtain ⟨q, hh⟩ : ∃ h, h = (i + j) / 2 := ⟨_, rfl⟩
    rw [← hh] at hw3 hw4
    have hs : Int.fdiv ((i + j : Nat) : Int) (2 ^ (min (Int.toNat 1) 64)) = ((q : Nat) : Int) := by rw [half_shr, hh]
    obtain ⟨e, hx⟩ : ∃ e, l[q]? = some e := ⟨_, List.getElem?_eq_getElem (by omega)⟩
    have hb : q < l.length := by omega
    repeat' (first
    | (with_reducible refine aw_seq ?_)
    | (with_reducible refine kont_in ?_; simp only [go_sem, reduceIte, Nat.reduceLT, Nat.reduceEqDiff, Nat.reduceAdd, Nat.reduceMul, Nat.reduceSub, Nat.reduceLeDiff, reduceCtorEq, hc, hw1, hw2, hw3, hw4, hs, hx, s1, c1])
    | (with_reducible refine dKont_in ?_; simp only [go_sem, reduceIte, Nat.reduceLT, Nat.reduceEqDiff, Nat.reduceAdd, Nat.reduceMul, Nat.reduceSub, Nat.reduceLeDiff, reduceCtorEq, hc, hw1, hw2, hw3, hw4, hs, hx, s1, c1])
    | (with_reducible refine aw_drw (by kernel_rfl) hK hD ?_; simp only [go_sem, reduceIte, Nat.reduceLT, Nat.reduceEqDiff, Nat.reduceAdd, Nat.reduceMul, Nat.reduceSub, Nat.reduceLeDiff, reduceCtorEq, hc, hw1, hw2, hw3, hw4, hs, hx, s1, c1])
    | (with_reducible refine aw_reg hK ?_; simp only [go_sem, reduceIte, Nat.reduceLT, Nat.reduceEqDiff, Nat.reduceAdd, Nat.reduceMul, Nat.reduceSub, Nat.reduceLeDiff, reduceCtorEq, hc, hw1, hw2, hw3, hw4, hs, hx, s1, c1])
    | (with_reducible refine aw_if ?_; simp only [go_sem, reduceIte, Nat.reduceLT, Nat.reduceEqDiff, Nat.reduceAdd, Nat.reduceMul, Nat.reduceSub, Nat.reduceLeDiff, reduceCtorEq, hc, hw1, hw2, hw3, hw4, hs, hx, s1, c1])
    | (with_reducible refine aw_block ?_)
    | (with_reducible refine aw_ret ?_; (try simp only [thenQ, blockQ]); refine aw_ret' ?_; simp only [go_sem, reduceIte, Nat.reduceLT, Nat.reduceEqDiff, Nat.reduceAdd, Nat.reduceMul, Nat.reduceSub, Nat.reduceLeDiff, reduceCtorEq, hc, hw1, hw2, hw3, hw4, hs, hx, s1, c1])
    | (with_reducible refine aw_exit ?_; simp only [thenQ, blockQ, reduceIte, Nat.reduceEqDiff])
    | (with_reducible refine aw_skip ?_; simp only [thenQ, blockQ])
    | (with_reducible refine gate_intro (fun h => ?_) (fun h => ?_) <;> simp only [h, go_sem, reduceIte, Nat.reduceLT, Nat.reduceEqDiff, Nat.reduceAdd, Nat.reduceMul, Nat.reduceSub, Nat.reduceLeDiff, reduceCtorEq, hc, hw1, hw2, hw3, hw4, hs, hx, s1, c1] <;> (try simp only [decide_eq_true_eq, decide_eq_false_iff_not, Bool.not_true] at h))
    | (with_reducible refine chk_in (by kernel_rfl) ?_)
    | (with_reducible refine And.intro (And.intro (by omega) (by omega)) ?_)
    | (with_reducible refine And.intro (by omega) ?_)
    | (with_reducible refine And.intro (show (Program.underlying _ _).isSome = true from by kernel_rfl) ?_)
    | (refine cmpE_call rfl e x rfl ?_)
    | (rw [get_in]; rotate_left; omega; simp only [go_sem, reduceIte, Nat.reduceLT, Nat.reduceEqDiff, Nat.reduceAdd, Nat.reduceMul, Nat.reduceSub, Nat.reduceLeDiff, reduceCtorEq, hc, hw1, hw2, hw3, hw4, hs, hx, s1, c1])
    | fail)
    · refine ⟨(q + 1, j), weak_in [(100, _)] (by repeat' (first | trivial | constructor | rfl)) (by repeat' (first | trivial | constructor | rfl)) (by rfl) (by rfl) (by rfl), ⟨by omega, hj, fun k f hk hf => ?_, hhi⟩, by simp only; omega⟩
      rcases Nat.lt_or_ge k q with h1 | h1
      · exact cmpE_trans (asc_lt hA h1 hf hx) h
      · have : k = q := by simp only at hk; omega
        subst this; rw [hx] at hf; cases hf; exact h
    · refine ⟨(i, q), weak_in [(100, _)] (by repeat' (first | trivial | constructor | rfl)) (by repeat' (first | trivial | constructor | rfl)) (by rfl) (by rfl) (by rfl), ⟨by omega, by simp only; omega, hlo, fun k f hk hf => ?_⟩, by simp only; omega⟩
      simp only at hk
      rcases Nat.lt_or_ge q k with h1 | h1
      · exact fun h2 => h (cmpE_trans (asc_lt hA h1 hx hf) h2)
      · have : k = q := by omega
        subst this; rw [hx] at hf; cases hf; exact h
  · have hc : decide ((i : Int) < (j : Int)) = false := by simp <;> omega
    have hi : i = j := by omega
    subst hi
    have hp : posE l x.1 = i := posE_is (by omega) (fun k e hk he => hlo k e hk he) (fun e he => hhi i e (Nat.le_refl _) he)
    by_cases hin : i < l.length
    · have hc2 : decide ((i : Int) < (l.length : Int)) = true := by simp <;> omega
      obtain ⟨e, hx⟩ : ∃ e, l[i]? = some e := ⟨_, List.getElem?_eq_getElem hin⟩
      repeat' (first
    | (with_reducible refine aw_seq ?_)
    | (with_reducible refine kont_in ?_; simp only [go_sem, reduceIte, Nat.reduceLT, Nat.reduceEqDiff, Nat.reduceAdd, Nat.reduceMul, Nat.reduceSub, Nat.reduceLeDiff, reduceCtorEq, hc, hc2, hx, s1, c1])
    | (with_reducible refine dKont_in ?_; simp only [go_sem, reduceIte, Nat.reduceLT, Nat.reduceEqDiff, Nat.reduceAdd, Nat.reduceMul, Nat.reduceSub, Nat.reduceLeDiff, reduceCtorEq, hc, hc2, hx, s1, c1])
    | (with_reducible refine aw_drw (by kernel_rfl) hK hD ?_; simp only [go_sem, reduceIte, Nat.reduceLT, Nat.reduceEqDiff, Nat.reduceAdd, Nat.reduceMul, Nat.reduceSub, Nat.reduceLeDiff, reduceCtorEq, hc, hc2, hx, s1, c1])
    | (with_reducible refine aw_reg hK ?_; simp only [go_sem, reduceIte, Nat.reduceLT, Nat.reduceEqDiff, Nat.reduceAdd, Nat.reduceMul, Nat.reduceSub, Nat.reduceLeDiff, reduceCtorEq, hc, hc2, hx, s1, c1])
    | (with_reducible refine aw_if ?_; simp only [go_sem, reduceIte, Nat.reduceLT, Nat.reduceEqDiff, Nat.reduceAdd, Nat.reduceMul, Nat.reduceSub, Nat.reduceLeDiff, reduceCtorEq, hc, hc2, hx, s1, c1])
    | (with_reducible refine aw_block ?_)
    | (with_reducible refine aw_ret ?_; (try simp only [thenQ, blockQ]); refine aw_ret' ?_; simp only [go_sem, reduceIte, Nat.reduceLT, Nat.reduceEqDiff, Nat.reduceAdd, Nat.reduceMul, Nat.reduceSub, Nat.reduceLeDiff, reduceCtorEq, hc, hc2, hx, s1, c1])
    | (with_reducible refine aw_exit ?_; simp only [thenQ, blockQ, reduceIte, Nat.reduceEqDiff])
    | (with_reducible refine aw_skip ?_; simp only [thenQ, blockQ])
    | (with_reducible refine gate_intro (fun h => ?_) (fun h => ?_) <;> simp only [h, go_sem, reduceIte, Nat.reduceLT, Nat.reduceEqDiff, Nat.reduceAdd, Nat.reduceMul, Nat.reduceSub, Nat.reduceLeDiff, reduceCtorEq, hc, hc2, hx, s1, c1] <;> (try simp only [decide_eq_true_eq, decide_eq_false_iff_not, Bool.not_true] at h))
    | (with_reducible refine chk_in (by kernel_rfl) ?_)
    | (with_reducible refine And.intro (And.intro (by omega) (by omega)) ?_)
    | (with_reducible refine And.intro (by omega) ?_)
    | (refine cmpE_call rfl e x rfl ?_)
    | (rw [get_in]; rotate_left; omega; simp only [go_sem, reduceIte, Nat.reduceLT, Nat.reduceEqDiff, Nat.reduceAdd, Nat.reduceMul, Nat.reduceSub, Nat.reduceLeDiff, reduceCtorEq, hc, hc2, hx, s1, c1])
    | fail)
      rw [hp]
      have : (atE l x.1).isSome = (cmpE e.1 x.1 == 0) := by
        unfold atE; rw [hp, hx]; cases hh : decide (cmpE e.1 x.1 = 0) <;> simp_all
      rw [this]
    · have hc2 : decide ((i : Int) < (l.length : Int)) = false := by simp <;> omega
      repeat' (first
    | (with_reducible refine aw_seq ?_)
    | (with_reducible refine kont_in ?_; simp only [go_sem, reduceIte, Nat.reduceLT, Nat.reduceEqDiff, Nat.reduceAdd, Nat.reduceMul, Nat.reduceSub, Nat.reduceLeDiff, reduceCtorEq, hc, hc2, s1, c1])
    | (with_reducible refine dKont_in ?_; simp only [go_sem, reduceIte, Nat.reduceLT, Nat.reduceEqDiff, Nat.reduceAdd, Nat.reduceMul, Nat.reduceSub, Nat.reduceLeDiff, reduceCtorEq, hc, hc2, s1, c1])
    | (with_reducible refine aw_drw (by kernel_rfl) hK hD ?_; simp only [go_sem, reduceIte, Nat.reduceLT, Nat.reduceEqDiff, Nat.reduceAdd, Nat.reduceMul, Nat.reduceSub, Nat.reduceLeDiff, reduceCtorEq, hc, hc2, s1, c1])
    | (with_reducible refine aw_reg hK ?_; simp only [go_sem, reduceIte, Nat.reduceLT, Nat.reduceEqDiff, Nat.reduceAdd, Nat.reduceMul, Nat.reduceSub, Nat.reduceLeDiff, reduceCtorEq, hc, hc2, s1, c1])
    | (with_reducible refine aw_if ?_; simp only [go_sem, reduceIte, Nat.reduceLT, Nat.reduceEqDiff, Nat.reduceAdd, Nat.reduceMul, Nat.reduceSub, Nat.reduceLeDiff, reduceCtorEq, hc, hc2, s1, c1])
    | (with_reducible refine aw_block ?_)
    | (with_reducible refine aw_ret ?_; (try simp only [thenQ, blockQ]); refine aw_ret' ?_; simp only [go_sem, reduceIte, Nat.reduceLT, Nat.reduceEqDiff, Nat.reduceAdd, Nat.reduceMul, Nat.reduceSub, Nat.reduceLeDiff, reduceCtorEq, hc, hc2, s1, c1])
    | (with_reducible refine aw_exit ?_; simp only [thenQ, blockQ, reduceIte, Nat.reduceEqDiff])
    | (with_reducible refine aw_skip ?_; simp only [thenQ, blockQ])
    | (with_reducible refine gate_intro (fun h => ?_) (fun h => ?_) <;> simp only [h, go_sem, reduceIte, Nat.reduceLT, Nat.reduceEqDiff, Nat.reduceAdd, Nat.reduceMul, Nat.reduceSub, Nat.reduceLeDiff, reduceCtorEq, hc, hc2, s1, c1] <;> (try simp only [decide_eq_true_eq, decide_eq_false_iff_not, Bool.not_true] at h))
    | (with_reducible refine chk_in (by kernel_rfl) ?_)
    | (with_reducible refine And.intro (And.intro (by omega) (by omega)) ?_)
    | (with_reducible refine And.intro (by omega) ?_)
    | (rw [get_in]; rotate_left; omega; simp only [go_sem, reduceIte, Nat.reduceLT, Nat.reduceEqDiff, Nat.reduceAdd, Nat.reduceMul, Nat.reduceSub, Nat.reduceLeDiff, reduceCtorEq, hc, hc2, s1, c1])
    | fail)
      rw [hp]
      have : (atE l x.1).isSome = false := by
        unfold atE; rw [hp, List.getElem?_eq_none (by omega)]; rfl
      rw [this]
end Go.Proofs.R1

/- Entries: valid lists, Clone. -/
set_option linter.unusedVariables false
set_option linter.unusedSimpArgs false
set_option maxRecDepth 8000
set_option maxHeartbeats 4000000
namespace Go.Proofs.R1
open Go Go.Abs

theorem enP_call {K : Kt} (hk : K 45 = some enC) {np fid : Nat} {M : Mem} {nx : D → Mem → Prop} (a : En) (hf : M fid = none) (hn : nx (bl (enV a)) M) : semCall K np 45 [.agg (enD a)] M fid nx :=
  call_fn hk rfl rfl (fun _ _ h => h) a rfl trivial hf hn
theorem enR_call {K : Kt} (hk : K 31 = some enC) {np fid : Nat} {M : Mem} {nx : D → Mem → Prop} (a : En) (hf : M fid = none) (hn : nx (bl (enV a)) M) : semCall K np 31 [.agg (enD a)] M fid nx :=
  call_fn hk rfl rfl (fun _ _ h => h) a rfl trivial hf hn
theorem bef_call {K : Kt} (hk : K 67 = some befC) {np fid : Nat} {M : Mem} {nx : D → Mem → Prop} (s t : En) (hf : M fid = none) (hn : nx (bl (decide (cmpE s t < 0))) M) : semCall K np 67 [.agg (enD s), .agg (enD t)] M fid nx :=
  call_fn hk rfl rfl (fun _ _ h => h) (s, t) rfl trivial hf hn
abbrev vaC : Con where
  α := List Er
  kinds := [false]
  args := fun l => [.d (.sl 4 (erR l))]
  pre := fun l => l.length ≤ 1000000
  post := fun l r => r = ⟨[.d (bl (vaL l))], []⟩
  clean := true
/-- The first ones are valid and in order. -/
def vaP (l : List Er) (i : Nat) : Prop := i ≤ l.length ∧ (∀ e, e ∈ l.take i → enV e.1 = true) ∧ AscE (l.take i)
theorem vaP_zero (l : List Er) : vaP l 0 := ⟨Nat.zero_le _, by simp, by simp [AscE]⟩
theorem vaP_end {l : List Er} (h : vaP l l.length) : vaL l = decide (l.length ≤ 300) := by
  have h2 := h.2
  rw [List.take_length] at h2
  unfold vaL
  exact decide_eq_decide.2 ⟨fun h => h.1, fun h => ⟨h, h2⟩⟩
theorem vaP_next {l : List Er} {i : Nat} {x : Er} (h : vaP l i) (hx : l[i]? = some x) (hv : enV x.1 = true) (ho : ∀ y, 0 < i → l[i - 1]? = some y → cmpE y.1 x.1 < 0) : vaP l (i + 1) := by
  have hi : i < l.length := (List.getElem?_eq_some_iff.1 hx).1
  have e : l.take (i + 1) = l.take i ++ [x] := by rw [List.take_add_one, hx]; rfl
  refine ⟨hi, fun y hy => ?_, ?_⟩
  · rw [e] at hy
    rcases List.mem_append.1 hy with hy | hy
    · exact h.2.1 y hy
    · rw [List.mem_singleton.1 hy]; exact hv
  · rw [e]; unfold AscE
    rw [List.pairwise_append]
    refine ⟨h.2.2, by simp, fun a ha b hb => ?_⟩
    rw [List.mem_singleton.1 hb]
    obtain ⟨k, hk⟩ := List.getElem?_of_mem ha
    have hki : k < i := by
      have := (List.getElem?_eq_some_iff.1 hk).1
      simp at this; omega
    have hl : l[i - 1]? = some (l[i - 1]'(by omega)) := List.getElem?_eq_getElem _
    have hlt := ho _ (by omega) hl
    rcases Nat.lt_or_ge k (i - 1) with h1 | h1
    · have hl' : (l.take i)[i - 1]? = some (l[i - 1]'(by omega)) := by rw [List.getElem?_take, if_pos (by omega)]; exact hl
      exact cmpE_trans (asc_lt h.2.2 h1 hk hl') hlt
    · have : k = i - 1 := by omega
      subst this
      rw [List.getElem?_take, if_pos (by omega), hl] at hk
      cases hk; exact hlt
theorem vaL_no1 {l : List Er} {i : Nat} {x : Er} (hx : l[i]? = some x) (hv : enV x.1 = false) : vaL l = false := by
  cases h : vaL l with
  | false => rfl
  | true =>
    have := (vaL_iff.1 h).2.1 x (List.mem_of_getElem? hx)
    rw [hv] at this; cases this
theorem vaL_no2 {l : List Er} {i : Nat} {x y : Er} (hi : 0 < i) (hx : l[i]? = some x) (hy : l[i - 1]? = some y) (hv : ¬ cmpE y.1 x.1 < 0) : vaL l = false := by
  cases h : vaL l with
  | false => rfl
  | true => exact absurd (asc_lt (vaL_iff.1 h).2.2 (by omega) hy hx) hv
theorem vaL_no3 {l : List Er} (h : ¬ l.length ≤ 300) : vaL l = false := by simp [vaL, h]
theorem vaPf_ok : CallOk Try.prog 43 vaC := by
  refine ok_of_body' 34 1 Try.func43 rfl (by decide) Try.ntmps43 (by intro a h; exact ⟨rfl, rfl⟩) (by decide) (by rintro _ a r _ rfl; rfl) ?_
  rintro (l : List Er) hl
  simp only [vaC] at hl ⊢
  simp only [initE, initMm, List.length_cons, List.length_nil, Nat.reduceAdd]
  have s1 : enC.srt = none := rfl
  have c1 : enC.clean = true := rfl
  have s2 : cmpEC.srt = none := rfl
  have c2 : cmpEC.clean = true := rfl
  have hK : KOk Try.prog (kOf [(45, enC), (48, cmpEC)]) := kOk_cons enP_ok (kOk_cons cmpE_ok kOk_nil)
  have hD : KDet (kOf [(45, enC), (48, cmpEC)]) := kDet_cons (fun _ _ => ⟨_, rfl, by simp, fun _ h => h⟩) (kDet_cons (fun _ _ => ⟨_, rfl, by simp, fun _ h => h⟩) kDet_nil)
  repeat' (first
    | (with_reducible refine aw_seq ?_)
    | (with_reducible refine kont_in ?_; simp only [go_sem, reduceIte, Nat.reduceLT, Nat.reduceEqDiff, Nat.reduceAdd, Nat.reduceMul, Nat.reduceSub, Nat.reduceLeDiff, reduceCtorEq, s1, c1, s2, c2])
    | (with_reducible refine dKont_in ?_; simp only [go_sem, reduceIte, Nat.reduceLT, Nat.reduceEqDiff, Nat.reduceAdd, Nat.reduceMul, Nat.reduceSub, Nat.reduceLeDiff, reduceCtorEq, s1, c1, s2, c2])
    | (with_reducible refine aw_drw (by kernel_rfl) hK hD ?_; simp only [go_sem, reduceIte, Nat.reduceLT, Nat.reduceEqDiff, Nat.reduceAdd, Nat.reduceMul, Nat.reduceSub, Nat.reduceLeDiff, reduceCtorEq, s1, c1, s2, c2])
    | (with_reducible refine aw_reg hK ?_; simp only [go_sem, reduceIte, Nat.reduceLT, Nat.reduceEqDiff, Nat.reduceAdd, Nat.reduceMul, Nat.reduceSub, Nat.reduceLeDiff, reduceCtorEq, s1, c1, s2, c2])
    | (with_reducible refine aw_if ?_; simp only [go_sem, reduceIte, Nat.reduceLT, Nat.reduceEqDiff, Nat.reduceAdd, Nat.reduceMul, Nat.reduceSub, Nat.reduceLeDiff, reduceCtorEq, s1, c1, s2, c2])
    | (with_reducible refine aw_block ?_)
    | (with_reducible refine aw_ret ?_; (try simp only [thenQ, blockQ]); refine aw_ret' ?_; simp only [go_sem, reduceIte, Nat.reduceLT, Nat.reduceEqDiff, Nat.reduceAdd, Nat.reduceMul, Nat.reduceSub, Nat.reduceLeDiff, reduceCtorEq, s1, c1, s2, c2])
    | (with_reducible refine aw_exit ?_; simp only [thenQ, blockQ, reduceIte, Nat.reduceEqDiff])
    | (with_reducible refine aw_skip ?_; simp only [thenQ, blockQ])
    | (with_reducible refine gate_intro (fun h => ?_) (fun h => ?_) <;> simp only [h, go_sem, reduceIte, Nat.reduceLT, Nat.reduceEqDiff, Nat.reduceAdd, Nat.reduceMul, Nat.reduceSub, Nat.reduceLeDiff, reduceCtorEq, s1, c1, s2, c2] <;> (try simp only [decide_eq_true_eq, decide_eq_false_iff_not, Bool.not_true] at h))
    | (with_reducible refine chk_in (by kernel_rfl) ?_)
    | (with_reducible refine And.intro (And.intro (by omega) (by omega)) ?_)
    | (with_reducible refine And.intro (by omega) ?_)
    | (rw [get_in]; rotate_left; omega; simp only [go_sem, reduceIte, Nat.reduceLT, Nat.reduceEqDiff, Nat.reduceAdd, Nat.reduceMul, Nat.reduceSub, Nat.reduceLeDiff, reduceCtorEq, s1, c1, s2, c2])
    | fail)
  refine aw_rounds (α := Nat) (fun i => ⟨envOf [(7, i64 i), (6, i64 l.length), (5, .sl 4 (erR l)), (0, .sl 4 (erR l))], memOf [], 200⟩)
    (fun i => vaP l i) (fun i => l.length - i) 0 (vaP_zero l) (weak_in [] (by repeat' (first | trivial | constructor | rfl)) (by repeat' (first | trivial | constructor | rfl)) (by rfl) (by rfl) (by rfl)) ?_
  intro i hI
  have hi := hI.1
  cases hx : l[i]? with
  | none =>
    have hge : l.length ≤ i := by simpa using hx
    have hc : decide ((i : Int) < (l.length : Int)) = false := by simp <;> omega
    have : i = l.length := by omega
    subst this
    repeat' (first
    | (with_reducible refine aw_seq ?_)
    | (with_reducible refine kont_in ?_; simp only [go_sem, reduceIte, Nat.reduceLT, Nat.reduceEqDiff, Nat.reduceAdd, Nat.reduceMul, Nat.reduceSub, Nat.reduceLeDiff, reduceCtorEq, hc, s1, c1, s2, c2])
    | (with_reducible refine dKont_in ?_; simp only [go_sem, reduceIte, Nat.reduceLT, Nat.reduceEqDiff, Nat.reduceAdd, Nat.reduceMul, Nat.reduceSub, Nat.reduceLeDiff, reduceCtorEq, hc, s1, c1, s2, c2])
    | (with_reducible refine aw_drw (by kernel_rfl) hK hD ?_; simp only [go_sem, reduceIte, Nat.reduceLT, Nat.reduceEqDiff, Nat.reduceAdd, Nat.reduceMul, Nat.reduceSub, Nat.reduceLeDiff, reduceCtorEq, hc, s1, c1, s2, c2])
    | (with_reducible refine aw_reg hK ?_; simp only [go_sem, reduceIte, Nat.reduceLT, Nat.reduceEqDiff, Nat.reduceAdd, Nat.reduceMul, Nat.reduceSub, Nat.reduceLeDiff, reduceCtorEq, hc, s1, c1, s2, c2])
    | (with_reducible refine aw_if ?_; simp only [go_sem, reduceIte, Nat.reduceLT, Nat.reduceEqDiff, Nat.reduceAdd, Nat.reduceMul, Nat.reduceSub, Nat.reduceLeDiff, reduceCtorEq, hc, s1, c1, s2, c2])
    | (with_reducible refine aw_block ?_)
    | (with_reducible refine aw_ret ?_; (try simp only [thenQ, blockQ]); refine aw_ret' ?_; simp only [go_sem, reduceIte, Nat.reduceLT, Nat.reduceEqDiff, Nat.reduceAdd, Nat.reduceMul, Nat.reduceSub, Nat.reduceLeDiff, reduceCtorEq, hc, s1, c1, s2, c2])
    | (with_reducible refine aw_exit ?_; simp only [thenQ, blockQ, reduceIte, Nat.reduceEqDiff])
    | (with_reducible refine aw_skip ?_; simp only [thenQ, blockQ])
    | (with_reducible refine gate_intro (fun h => ?_) (fun h => ?_) <;> simp only [h, go_sem, reduceIte, Nat.reduceLT, Nat.reduceEqDiff, Nat.reduceAdd, Nat.reduceMul, Nat.reduceSub, Nat.reduceLeDiff, reduceCtorEq, hc, s1, c1, s2, c2] <;> (try simp only [decide_eq_true_eq, decide_eq_false_iff_not, Bool.not_true] at h))
    | (with_reducible refine chk_in (by kernel_rfl) ?_)
    | (with_reducible refine And.intro (And.intro (by omega) (by omega)) ?_)
    | (with_reducible refine And.intro (by omega) ?_)
    | (rw [get_in]; rotate_left; omega; simp only [go_sem, reduceIte, Nat.reduceLT, Nat.reduceEqDiff, Nat.reduceAdd, Nat.reduceMul, Nat.reduceSub, Nat.reduceLeDiff, reduceCtorEq, hc, s1, c1, s2, c2])
    | fail)
    rw [vaP_end hI]; simp <;> omega
  | some x =>
    have hlt : i < l.length := (List.getElem?_eq_some_iff.1 hx).1
    have hc : decide ((i : Int) < (l.length : Int)) = true := by simp <;> omega
    have hw := wrS (i := i) (by omega)
    have hw1 : IntKind.i64.wrap ((i : Int) - 1) = (i : Int) - 1 := wr64 (by omega) (by omega)
    cases i with
    | zero =>
      have h0 : decide (((0 : Nat) : Int) > 0) = false := rfl
      repeat' (first
    | (with_reducible refine aw_seq ?_)
    | (with_reducible refine kont_in ?_; simp only [go_sem, reduceIte, Nat.reduceLT, Nat.reduceEqDiff, Nat.reduceAdd, Nat.reduceMul, Nat.reduceSub, Nat.reduceLeDiff, reduceCtorEq, hc, hw, hw1, hx, h0, s1, c1, s2, c2])
    | (with_reducible refine dKont_in ?_; simp only [go_sem, reduceIte, Nat.reduceLT, Nat.reduceEqDiff, Nat.reduceAdd, Nat.reduceMul, Nat.reduceSub, Nat.reduceLeDiff, reduceCtorEq, hc, hw, hw1, hx, h0, s1, c1, s2, c2])
    | (with_reducible refine aw_drw (by kernel_rfl) hK hD ?_; simp only [go_sem, reduceIte, Nat.reduceLT, Nat.reduceEqDiff, Nat.reduceAdd, Nat.reduceMul, Nat.reduceSub, Nat.reduceLeDiff, reduceCtorEq, hc, hw, hw1, hx, h0, s1, c1, s2, c2])
    | (with_reducible refine aw_reg hK ?_; simp only [go_sem, reduceIte, Nat.reduceLT, Nat.reduceEqDiff, Nat.reduceAdd, Nat.reduceMul, Nat.reduceSub, Nat.reduceLeDiff, reduceCtorEq, hc, hw, hw1, hx, h0, s1, c1, s2, c2])
    | (with_reducible refine aw_if ?_; simp only [go_sem, reduceIte, Nat.reduceLT, Nat.reduceEqDiff, Nat.reduceAdd, Nat.reduceMul, Nat.reduceSub, Nat.reduceLeDiff, reduceCtorEq, hc, hw, hw1, hx, h0, s1, c1, s2, c2])
    | (with_reducible refine aw_block ?_)
    | (with_reducible refine aw_ret ?_; (try simp only [thenQ, blockQ]); refine aw_ret' ?_; simp only [go_sem, reduceIte, Nat.reduceLT, Nat.reduceEqDiff, Nat.reduceAdd, Nat.reduceMul, Nat.reduceSub, Nat.reduceLeDiff, reduceCtorEq, hc, hw, hw1, hx, h0, s1, c1, s2, c2])
    | (with_reducible refine aw_exit ?_; simp only [thenQ, blockQ, reduceIte, Nat.reduceEqDiff])
    | (with_reducible refine aw_skip ?_; simp only [thenQ, blockQ])
    | (with_reducible refine gate_intro (fun h => ?_) (fun h => ?_) <;> simp only [h, go_sem, reduceIte, Nat.reduceLT, Nat.reduceEqDiff, Nat.reduceAdd, Nat.reduceMul, Nat.reduceSub, Nat.reduceLeDiff, reduceCtorEq, hc, hw, hw1, hx, h0, s1, c1, s2, c2] <;> (try simp only [decide_eq_true_eq, decide_eq_false_iff_not, Bool.not_true] at h))
    | (with_reducible refine chk_in (by kernel_rfl) ?_)
    | (with_reducible refine And.intro (And.intro (by omega) (by omega)) ?_)
    | (with_reducible refine And.intro (by omega) ?_)
    | (refine enP_call rfl x.1 rfl ?_)
    | (refine cmpE_call rfl _ x rfl ?_)
    | (rw [get_in]; rotate_left; omega; simp only [go_sem, reduceIte, Nat.reduceLT, Nat.reduceEqDiff, Nat.reduceAdd, Nat.reduceMul, Nat.reduceSub, Nat.reduceLeDiff, reduceCtorEq, hc, hw, hw1, hx, h0, s1, c1, s2, c2])
    | fail)
      · exact ⟨1, weak_in [] (by repeat' (first | trivial | constructor | rfl)) (by repeat' (first | trivial | constructor | rfl)) (by rfl) (by rfl) (by rfl), vaP_next hI hx (by simpa using h) (fun y h0 _ => absurd h0 (by omega)), by omega⟩
      · rw [vaL_no1 hx (by simpa using h)]
    | succ i =>
      have h0 : decide (((i + 1 : Nat) : Int) > 0) = true := by simp <;> omega
      obtain ⟨y, hy⟩ : ∃ y, l[i]? = some y := ⟨_, List.getElem?_eq_getElem (by omega)⟩
      have hm0 : (((i + 1 : Nat) : Int) - 1) = (i : Int) := by omega
      simp only [hm0] at hw1
      repeat' (first
    | (with_reducible refine aw_seq ?_)
    | (with_reducible refine kont_in ?_; simp only [go_sem, reduceIte, Nat.reduceLT, Nat.reduceEqDiff, Nat.reduceAdd, Nat.reduceMul, Nat.reduceSub, Nat.reduceLeDiff, reduceCtorEq, hc, hw, hm0, hw1, hx, hy, h0, s1, c1, s2, c2])
    | (with_reducible refine dKont_in ?_; simp only [go_sem, reduceIte, Nat.reduceLT, Nat.reduceEqDiff, Nat.reduceAdd, Nat.reduceMul, Nat.reduceSub, Nat.reduceLeDiff, reduceCtorEq, hc, hw, hm0, hw1, hx, hy, h0, s1, c1, s2, c2])
    | (with_reducible refine aw_drw (by kernel_rfl) hK hD ?_; simp only [go_sem, reduceIte, Nat.reduceLT, Nat.reduceEqDiff, Nat.reduceAdd, Nat.reduceMul, Nat.reduceSub, Nat.reduceLeDiff, reduceCtorEq, hc, hw, hm0, hw1, hx, hy, h0, s1, c1, s2, c2])
    | (with_reducible refine aw_reg hK ?_; simp only [go_sem, reduceIte, Nat.reduceLT, Nat.reduceEqDiff, Nat.reduceAdd, Nat.reduceMul, Nat.reduceSub, Nat.reduceLeDiff, reduceCtorEq, hc, hw, hm0, hw1, hx, hy, h0, s1, c1, s2, c2])
    | (with_reducible refine aw_if ?_; simp only [go_sem, reduceIte, Nat.reduceLT, Nat.reduceEqDiff, Nat.reduceAdd, Nat.reduceMul, Nat.reduceSub, Nat.reduceLeDiff, reduceCtorEq, hc, hw, hm0, hw1, hx, hy, h0, s1, c1, s2, c2])
    | (with_reducible refine aw_block ?_)
    | (with_reducible refine aw_ret ?_; (try simp only [thenQ, blockQ]); refine aw_ret' ?_; simp only [go_sem, reduceIte, Nat.reduceLT, Nat.reduceEqDiff, Nat.reduceAdd, Nat.reduceMul, Nat.reduceSub, Nat.reduceLeDiff, reduceCtorEq, hc, hw, hm0, hw1, hx, hy, h0, s1, c1, s2, c2])
    | (with_reducible refine aw_exit ?_; simp only [thenQ, blockQ, reduceIte, Nat.reduceEqDiff])
    | (with_reducible refine aw_skip ?_; simp only [thenQ, blockQ])
    | (with_reducible refine gate_intro (fun h => ?_) (fun h => ?_) <;> simp only [h, go_sem, reduceIte, Nat.reduceLT, Nat.reduceEqDiff, Nat.reduceAdd, Nat.reduceMul, Nat.reduceSub, Nat.reduceLeDiff, reduceCtorEq, hc, hw, hm0, hw1, hx, hy, h0, s1, c1, s2, c2] <;> (try simp only [decide_eq_true_eq, decide_eq_false_iff_not, Bool.not_true] at h))
    | (with_reducible refine chk_in (by kernel_rfl) ?_)
    | (with_reducible refine And.intro (And.intro (by omega) (by omega)) ?_)
    | (with_reducible refine And.intro (by omega) ?_)
    | (refine enP_call rfl x.1 rfl ?_)
    | (refine cmpE_call rfl y x rfl ?_)
    | (rw [get_in]; rotate_left; omega; simp only [go_sem, reduceIte, Nat.reduceLT, Nat.reduceEqDiff, Nat.reduceAdd, Nat.reduceMul, Nat.reduceSub, Nat.reduceLeDiff, reduceCtorEq, hc, hw, hm0, hw1, hx, hy, h0, s1, c1, s2, c2])
    | fail)
      · rw [vaL_no2 (Nat.succ_pos i) hx hy (by omega)]
      · rename_i hv
        exact ⟨i + 1 + 1, weak_in [] (by repeat' (first | trivial | constructor | rfl)) (by repeat' (first | trivial | constructor | rfl)) (by rfl) (by rfl) (by rfl), vaP_next hI hx (by simpa using hv) (fun z _ hz => by rw [Nat.add_sub_cancel, hy] at hz; cases hz; omega), by omega⟩
      · rw [vaL_no1 hx (by simpa using h)]
theorem vaR_ok : CallOk Try.prog 52 vaC := by
  refine ok_of_body' 39 1 Try.func52 rfl (by decide) Try.ntmps52 (by intro a h; exact ⟨rfl, rfl⟩) (by decide) (by rintro _ a r _ rfl; rfl) ?_
  rintro (l : List Er) hl
  simp only [vaC] at hl ⊢
  simp only [initE, initMm, List.length_cons, List.length_nil, Nat.reduceAdd]
  have s1 : enC.srt = none := rfl
  have c1 : enC.clean = true := rfl
  have s2 : befC.srt = none := rfl
  have c2 : befC.clean = true := rfl
  have hK : KOk Try.prog (kOf [(31, enC), (67, befC)]) := kOk_cons enR_ok (kOk_cons bef_ok kOk_nil)
  have hD : KDet (kOf [(31, enC), (67, befC)]) := kDet_cons (fun _ _ => ⟨_, rfl, by simp, fun _ h => h⟩) (kDet_cons (fun _ _ => ⟨_, rfl, by simp, fun _ h => h⟩) kDet_nil)
  by_cases h3 : 300 < l.length
  · have hc : decide ((l.length : Int) > 300) = true := by simp <;> omega
    repeat' (first
    | (with_reducible refine aw_seq ?_)
    | (with_reducible refine kont_in ?_; simp only [go_sem, reduceIte, Nat.reduceLT, Nat.reduceEqDiff, Nat.reduceAdd, Nat.reduceMul, Nat.reduceSub, Nat.reduceLeDiff, reduceCtorEq, hc, s1, c1, s2, c2])
    | (with_reducible refine dKont_in ?_; simp only [go_sem, reduceIte, Nat.reduceLT, Nat.reduceEqDiff, Nat.reduceAdd, Nat.reduceMul, Nat.reduceSub, Nat.reduceLeDiff, reduceCtorEq, hc, s1, c1, s2, c2])
    | (with_reducible refine aw_drw (by kernel_rfl) hK hD ?_; simp only [go_sem, reduceIte, Nat.reduceLT, Nat.reduceEqDiff, Nat.reduceAdd, Nat.reduceMul, Nat.reduceSub, Nat.reduceLeDiff, reduceCtorEq, hc, s1, c1, s2, c2])
    | (with_reducible refine aw_reg hK ?_; simp only [go_sem, reduceIte, Nat.reduceLT, Nat.reduceEqDiff, Nat.reduceAdd, Nat.reduceMul, Nat.reduceSub, Nat.reduceLeDiff, reduceCtorEq, hc, s1, c1, s2, c2])
    | (with_reducible refine aw_if ?_; simp only [go_sem, reduceIte, Nat.reduceLT, Nat.reduceEqDiff, Nat.reduceAdd, Nat.reduceMul, Nat.reduceSub, Nat.reduceLeDiff, reduceCtorEq, hc, s1, c1, s2, c2])
    | (with_reducible refine aw_block ?_)
    | (with_reducible refine aw_ret ?_; (try simp only [thenQ, blockQ]); refine aw_ret' ?_; simp only [go_sem, reduceIte, Nat.reduceLT, Nat.reduceEqDiff, Nat.reduceAdd, Nat.reduceMul, Nat.reduceSub, Nat.reduceLeDiff, reduceCtorEq, hc, s1, c1, s2, c2])
    | (with_reducible refine aw_exit ?_; simp only [thenQ, blockQ, reduceIte, Nat.reduceEqDiff])
    | (with_reducible refine aw_skip ?_; simp only [thenQ, blockQ])
    | (with_reducible refine gate_intro (fun h => ?_) (fun h => ?_) <;> simp only [h, go_sem, reduceIte, Nat.reduceLT, Nat.reduceEqDiff, Nat.reduceAdd, Nat.reduceMul, Nat.reduceSub, Nat.reduceLeDiff, reduceCtorEq, hc, s1, c1, s2, c2] <;> (try simp only [decide_eq_true_eq, decide_eq_false_iff_not, Bool.not_true] at h))
    | (with_reducible refine chk_in (by kernel_rfl) ?_)
    | (with_reducible refine And.intro (And.intro (by omega) (by omega)) ?_)
    | (with_reducible refine And.intro (by omega) ?_)
    | (rw [get_in]; rotate_left; omega; simp only [go_sem, reduceIte, Nat.reduceLT, Nat.reduceEqDiff, Nat.reduceAdd, Nat.reduceMul, Nat.reduceSub, Nat.reduceLeDiff, reduceCtorEq, hc, s1, c1, s2, c2])
    | fail)
    rw [vaL_no3 (by omega)]
  have hc3 : decide ((l.length : Int) > 300) = false := by simp <;> omega
  repeat' (first
    | (with_reducible refine aw_seq ?_)
    | (with_reducible refine kont_in ?_; simp only [go_sem, reduceIte, Nat.reduceLT, Nat.reduceEqDiff, Nat.reduceAdd, Nat.reduceMul, Nat.reduceSub, Nat.reduceLeDiff, reduceCtorEq, hc3, s1, c1, s2, c2])
    | (with_reducible refine dKont_in ?_; simp only [go_sem, reduceIte, Nat.reduceLT, Nat.reduceEqDiff, Nat.reduceAdd, Nat.reduceMul, Nat.reduceSub, Nat.reduceLeDiff, reduceCtorEq, hc3, s1, c1, s2, c2])
    | (with_reducible refine aw_drw (by kernel_rfl) hK hD ?_; simp only [go_sem, reduceIte, Nat.reduceLT, Nat.reduceEqDiff, Nat.reduceAdd, Nat.reduceMul, Nat.reduceSub, Nat.reduceLeDiff, reduceCtorEq, hc3, s1, c1, s2, c2])
    | (with_reducible refine aw_reg hK ?_; simp only [go_sem, reduceIte, Nat.reduceLT, Nat.reduceEqDiff, Nat.reduceAdd, Nat.reduceMul, Nat.reduceSub, Nat.reduceLeDiff, reduceCtorEq, hc3, s1, c1, s2, c2])
    | (with_reducible refine aw_if ?_; simp only [go_sem, reduceIte, Nat.reduceLT, Nat.reduceEqDiff, Nat.reduceAdd, Nat.reduceMul, Nat.reduceSub, Nat.reduceLeDiff, reduceCtorEq, hc3, s1, c1, s2, c2])
    | (with_reducible refine aw_block ?_)
    | (with_reducible refine aw_ret ?_; (try simp only [thenQ, blockQ]); refine aw_ret' ?_; simp only [go_sem, reduceIte, Nat.reduceLT, Nat.reduceEqDiff, Nat.reduceAdd, Nat.reduceMul, Nat.reduceSub, Nat.reduceLeDiff, reduceCtorEq, hc3, s1, c1, s2, c2])
    | (with_reducible refine aw_exit ?_; simp only [thenQ, blockQ, reduceIte, Nat.reduceEqDiff])
    | (with_reducible refine aw_skip ?_; simp only [thenQ, blockQ])
    | (with_reducible refine gate_intro (fun h => ?_) (fun h => ?_) <;> simp only [h, go_sem, reduceIte, Nat.reduceLT, Nat.reduceEqDiff, Nat.reduceAdd, Nat.reduceMul, Nat.reduceSub, Nat.reduceLeDiff, reduceCtorEq, hc3, s1, c1, s2, c2] <;> (try simp only [decide_eq_true_eq, decide_eq_false_iff_not, Bool.not_true] at h))
    | (with_reducible refine chk_in (by kernel_rfl) ?_)
    | (with_reducible refine And.intro (And.intro (by omega) (by omega)) ?_)
    | (with_reducible refine And.intro (by omega) ?_)
    | (rw [get_in]; rotate_left; omega; simp only [go_sem, reduceIte, Nat.reduceLT, Nat.reduceEqDiff, Nat.reduceAdd, Nat.reduceMul, Nat.reduceSub, Nat.reduceLeDiff, reduceCtorEq, hc3, s1, c1, s2, c2])
    | fail)
  refine aw_rounds (α := Nat) (fun i => ⟨envOf [(3, i64 i), (0, .sl 4 (erR l))], memOf [], 200⟩)
    (fun i => vaP l i) (fun i => l.length - i) 0 (vaP_zero l) (weak_in [] (by repeat' (first | trivial | constructor | rfl)) (by repeat' (first | trivial | constructor | rfl)) (by rfl) (by rfl) (by rfl)) ?_
  intro i hI
  have hi := hI.1
  cases hx : l[i]? with
  | none =>
    have hge : l.length ≤ i := by simpa using hx
    have hc : decide ((i : Int) < (l.length : Int)) = false := by simp <;> omega
    have : i = l.length := by omega
    subst this
    repeat' (first
    | (with_reducible refine aw_seq ?_)
    | (with_reducible refine kont_in ?_; simp only [go_sem, reduceIte, Nat.reduceLT, Nat.reduceEqDiff, Nat.reduceAdd, Nat.reduceMul, Nat.reduceSub, Nat.reduceLeDiff, reduceCtorEq, hc, s1, c1, s2, c2])
    | (with_reducible refine dKont_in ?_; simp only [go_sem, reduceIte, Nat.reduceLT, Nat.reduceEqDiff, Nat.reduceAdd, Nat.reduceMul, Nat.reduceSub, Nat.reduceLeDiff, reduceCtorEq, hc, s1, c1, s2, c2])
    | (with_reducible refine aw_drw (by kernel_rfl) hK hD ?_; simp only [go_sem, reduceIte, Nat.reduceLT, Nat.reduceEqDiff, Nat.reduceAdd, Nat.reduceMul, Nat.reduceSub, Nat.reduceLeDiff, reduceCtorEq, hc, s1, c1, s2, c2])
    | (with_reducible refine aw_reg hK ?_; simp only [go_sem, reduceIte, Nat.reduceLT, Nat.reduceEqDiff, Nat.reduceAdd, Nat.reduceMul, Nat.reduceSub, Nat.reduceLeDiff, reduceCtorEq, hc, s1, c1, s2, c2])
    | (with_reducible refine aw_if ?_; simp only [go_sem, reduceIte, Nat.reduceLT, Nat.reduceEqDiff, Nat.reduceAdd, Nat.reduceMul, Nat.reduceSub, Nat.reduceLeDiff, reduceCtorEq, hc, s1, c1, s2, c2])
    | (with_reducible refine aw_block ?_)
    | (with_reducible refine aw_ret ?_; (try simp only [thenQ, blockQ]); refine aw_ret' ?_; simp only [go_sem, reduceIte, Nat.reduceLT, Nat.reduceEqDiff, Nat.reduceAdd, Nat.reduceMul, Nat.reduceSub, Nat.reduceLeDiff, reduceCtorEq, hc, s1, c1, s2, c2])
    | (with_reducible refine aw_exit ?_; simp only [thenQ, blockQ, reduceIte, Nat.reduceEqDiff])
    | (with_reducible refine aw_skip ?_; simp only [thenQ, blockQ])
    | (with_reducible refine gate_intro (fun h => ?_) (fun h => ?_) <;> simp only [h, go_sem, reduceIte, Nat.reduceLT, Nat.reduceEqDiff, Nat.reduceAdd, Nat.reduceMul, Nat.reduceSub, Nat.reduceLeDiff, reduceCtorEq, hc, s1, c1, s2, c2] <;> (try simp only [decide_eq_true_eq, decide_eq_false_iff_not, Bool.not_true] at h))
    | (with_reducible refine chk_in (by kernel_rfl) ?_)
    | (with_reducible refine And.intro (And.intro (by omega) (by omega)) ?_)
    | (with_reducible refine And.intro (by omega) ?_)
    | (rw [get_in]; rotate_left; omega; simp only [go_sem, reduceIte, Nat.reduceLT, Nat.reduceEqDiff, Nat.reduceAdd, Nat.reduceMul, Nat.reduceSub, Nat.reduceLeDiff, reduceCtorEq, hc, s1, c1, s2, c2])
    | fail)
    rw [vaP_end hI]; simp <;> omega
  | some x =>
    have hlt : i < l.length := (List.getElem?_eq_some_iff.1 hx).1
    have hc : decide ((i : Int) < (l.length : Int)) = true := by simp <;> omega
    have hw := wrS (i := i) (by omega)
    have hw1 : IntKind.i64.wrap ((i : Int) - 1) = (i : Int) - 1 := wr64 (by omega) (by omega)
    cases i with
    | zero =>
      have h0 : decide (((0 : Nat) : Int) > 0) = false := rfl
      repeat' (first
    | (with_reducible refine aw_seq ?_)
    | (with_reducible refine kont_in ?_; simp only [go_sem, reduceIte, Nat.reduceLT, Nat.reduceEqDiff, Nat.reduceAdd, Nat.reduceMul, Nat.reduceSub, Nat.reduceLeDiff, reduceCtorEq, hc, hw, hw1, hx, h0, s1, c1, s2, c2])
    | (with_reducible refine dKont_in ?_; simp only [go_sem, reduceIte, Nat.reduceLT, Nat.reduceEqDiff, Nat.reduceAdd, Nat.reduceMul, Nat.reduceSub, Nat.reduceLeDiff, reduceCtorEq, hc, hw, hw1, hx, h0, s1, c1, s2, c2])
    | (with_reducible refine aw_drw (by kernel_rfl) hK hD ?_; simp only [go_sem, reduceIte, Nat.reduceLT, Nat.reduceEqDiff, Nat.reduceAdd, Nat.reduceMul, Nat.reduceSub, Nat.reduceLeDiff, reduceCtorEq, hc, hw, hw1, hx, h0, s1, c1, s2, c2])
    | (with_reducible refine aw_reg hK ?_; simp only [go_sem, reduceIte, Nat.reduceLT, Nat.reduceEqDiff, Nat.reduceAdd, Nat.reduceMul, Nat.reduceSub, Nat.reduceLeDiff, reduceCtorEq, hc, hw, hw1, hx, h0, s1, c1, s2, c2])
    | (with_reducible refine aw_if ?_; simp only [go_sem, reduceIte, Nat.reduceLT, Nat.reduceEqDiff, Nat.reduceAdd, Nat.reduceMul, Nat.reduceSub, Nat.reduceLeDiff, reduceCtorEq, hc, hw, hw1, hx, h0, s1, c1, s2, c2])
    | (with_reducible refine aw_block ?_)
    | (with_reducible refine aw_ret ?_; (try simp only [thenQ, blockQ]); refine aw_ret' ?_; simp only [go_sem, reduceIte, Nat.reduceLT, Nat.reduceEqDiff, Nat.reduceAdd, Nat.reduceMul, Nat.reduceSub, Nat.reduceLeDiff, reduceCtorEq, hc, hw, hw1, hx, h0, s1, c1, s2, c2])
    | (with_reducible refine aw_exit ?_; simp only [thenQ, blockQ, reduceIte, Nat.reduceEqDiff])
    | (with_reducible refine aw_skip ?_; simp only [thenQ, blockQ])
    | (with_reducible refine gate_intro (fun h => ?_) (fun h => ?_) <;> simp only [h, go_sem, reduceIte, Nat.reduceLT, Nat.reduceEqDiff, Nat.reduceAdd, Nat.reduceMul, Nat.reduceSub, Nat.reduceLeDiff, reduceCtorEq, hc, hw, hw1, hx, h0, s1, c1, s2, c2] <;> (try simp only [decide_eq_true_eq, decide_eq_false_iff_not, Bool.not_true] at h))
    | (with_reducible refine chk_in (by kernel_rfl) ?_)
    | (with_reducible refine And.intro (And.intro (by omega) (by omega)) ?_)
    | (with_reducible refine And.intro (by omega) ?_)
    | (refine enR_call rfl x.1 rfl ?_)
    | (refine bef_call rfl _ x.1 rfl ?_)
    | (rw [get_in]; rotate_left; omega; simp only [go_sem, reduceIte, Nat.reduceLT, Nat.reduceEqDiff, Nat.reduceAdd, Nat.reduceMul, Nat.reduceSub, Nat.reduceLeDiff, reduceCtorEq, hc, hw, hw1, hx, h0, s1, c1, s2, c2])
    | fail)
      · exact ⟨1, weak_in [] (by repeat' (first | trivial | constructor | rfl)) (by repeat' (first | trivial | constructor | rfl)) (by rfl) (by rfl) (by rfl), vaP_next hI hx (by simpa using h) (fun y h0 _ => absurd h0 (by omega)), by omega⟩
      · rw [vaL_no1 hx (by simpa using h)]
    | succ i =>
      have h0 : decide (((i + 1 : Nat) : Int) > 0) = true := by simp <;> omega
      obtain ⟨y, hy⟩ : ∃ y, l[i]? = some y := ⟨_, List.getElem?_eq_getElem (by omega)⟩
      have hm0 : (((i + 1 : Nat) : Int) - 1) = (i : Int) := by omega
      simp only [hm0] at hw1
      repeat' (first
    | (with_reducible refine aw_seq ?_)
    | (with_reducible refine kont_in ?_; simp only [go_sem, reduceIte, Nat.reduceLT, Nat.reduceEqDiff, Nat.reduceAdd, Nat.reduceMul, Nat.reduceSub, Nat.reduceLeDiff, reduceCtorEq, hc, hw, hm0, hw1, hx, hy, h0, s1, c1, s2, c2])
    | (with_reducible refine dKont_in ?_; simp only [go_sem, reduceIte, Nat.reduceLT, Nat.reduceEqDiff, Nat.reduceAdd, Nat.reduceMul, Nat.reduceSub, Nat.reduceLeDiff, reduceCtorEq, hc, hw, hm0, hw1, hx, hy, h0, s1, c1, s2, c2])
    | (with_reducible refine aw_drw (by kernel_rfl) hK hD ?_; simp only [go_sem, reduceIte, Nat.reduceLT, Nat.reduceEqDiff, Nat.reduceAdd, Nat.reduceMul, Nat.reduceSub, Nat.reduceLeDiff, reduceCtorEq, hc, hw, hm0, hw1, hx, hy, h0, s1, c1, s2, c2])
    | (with_reducible refine aw_reg hK ?_; simp only [go_sem, reduceIte, Nat.reduceLT, Nat.reduceEqDiff, Nat.reduceAdd, Nat.reduceMul, Nat.reduceSub, Nat.reduceLeDiff, reduceCtorEq, hc, hw, hm0, hw1, hx, hy, h0, s1, c1, s2, c2])
    | (with_reducible refine aw_if ?_; simp only [go_sem, reduceIte, Nat.reduceLT, Nat.reduceEqDiff, Nat.reduceAdd, Nat.reduceMul, Nat.reduceSub, Nat.reduceLeDiff, reduceCtorEq, hc, hw, hm0, hw1, hx, hy, h0, s1, c1, s2, c2])
    | (with_reducible refine aw_block ?_)
    | (with_reducible refine aw_ret ?_; (try simp only [thenQ, blockQ]); refine aw_ret' ?_; simp only [go_sem, reduceIte, Nat.reduceLT, Nat.reduceEqDiff, Nat.reduceAdd, Nat.reduceMul, Nat.reduceSub, Nat.reduceLeDiff, reduceCtorEq, hc, hw, hm0, hw1, hx, hy, h0, s1, c1, s2, c2])
    | (with_reducible refine aw_exit ?_; simp only [thenQ, blockQ, reduceIte, Nat.reduceEqDiff])
    | (with_reducible refine aw_skip ?_; simp only [thenQ, blockQ])
    | (with_reducible refine gate_intro (fun h => ?_) (fun h => ?_) <;> simp only [h, go_sem, reduceIte, Nat.reduceLT, Nat.reduceEqDiff, Nat.reduceAdd, Nat.reduceMul, Nat.reduceSub, Nat.reduceLeDiff, reduceCtorEq, hc, hw, hm0, hw1, hx, hy, h0, s1, c1, s2, c2] <;> (try simp only [decide_eq_true_eq, decide_eq_false_iff_not, Bool.not_true] at h))
    | (with_reducible refine chk_in (by kernel_rfl) ?_)
    | (with_reducible refine And.intro (And.intro (by omega) (by omega)) ?_)
    | (with_reducible refine And.intro (by omega) ?_)
    | (refine enR_call rfl x.1 rfl ?_)
    | (refine bef_call rfl y.1 x.1 rfl ?_)
    | (rw [get_in]; rotate_left; omega; simp only [go_sem, reduceIte, Nat.reduceLT, Nat.reduceEqDiff, Nat.reduceAdd, Nat.reduceMul, Nat.reduceSub, Nat.reduceLeDiff, reduceCtorEq, hc, hw, hm0, hw1, hx, hy, h0, s1, c1, s2, c2])
    | fail)
      · rw [vaL_no2 (Nat.succ_pos i) hx hy (by simpa using h)]
      · rename_i hv
        exact ⟨i + 1 + 1, weak_in [] (by repeat' (first | trivial | constructor | rfl)) (by repeat' (first | trivial | constructor | rfl)) (by rfl) (by rfl) (by rfl), vaP_next hI hx (by simpa using hv) (fun z _ hz => by rw [Nat.add_sub_cancel, hy] at hz; cases hz; simpa using h), by omega⟩
      · rw [vaL_no1 hx (by simpa using h)]
abbrev cloC : Con where
  α := List Er
  kinds := [false]
  args := fun l => [.d (.sl 4 (erR l))]
  pre := fun l => l.length ≤ 1000000
  post := fun l r => r = ⟨[.own 4 (erR l)], []⟩
  clean := true
theorem erR_plain (l : List Er) (e : List D) (h : e ∈ erR l) : e.all plainC = true := by
  simp only [erR, List.mem_map] at h
  obtain ⟨x, -, rfl⟩ := h; rfl
theorem clo_ok : CallOk Try.prog 49 cloC := by
  refine ok_of_body_own 8 1 Try.func49 rfl (by decide) Try.ntmps49 (by intro a h; exact ⟨rfl, rfl⟩) (by decide) (by rintro _ a r _ rfl; simpa [plainRD, plainD, plainC] using erR_plain _) ?_
  rintro (l : List Er) hl
  simp only [cloC] at hl ⊢
  simp only [initE, initMm, List.length_cons, List.length_nil, Nat.reduceAdd]
  repeat' (first
    | (with_reducible refine aw_seq ?_)
    | (with_reducible refine kont_in ?_; simp only [go_sem, reduceIte, Nat.reduceLT, Nat.reduceEqDiff, Nat.reduceAdd, Nat.reduceMul, Nat.reduceSub, Nat.reduceLeDiff, reduceCtorEq])
    | (with_reducible refine dKont_in ?_; simp only [go_sem, reduceIte, Nat.reduceLT, Nat.reduceEqDiff, Nat.reduceAdd, Nat.reduceMul, Nat.reduceSub, Nat.reduceLeDiff, reduceCtorEq])
    | (with_reducible refine aw_drw (by kernel_rfl) kOk_nil kDet_nil ?_; simp only [go_sem, reduceIte, Nat.reduceLT, Nat.reduceEqDiff, Nat.reduceAdd, Nat.reduceMul, Nat.reduceSub, Nat.reduceLeDiff, reduceCtorEq])
    | (with_reducible refine aw_reg kOk_nil ?_; simp only [go_sem, reduceIte, Nat.reduceLT, Nat.reduceEqDiff, Nat.reduceAdd, Nat.reduceMul, Nat.reduceSub, Nat.reduceLeDiff, reduceCtorEq])
    | (with_reducible refine aw_if ?_; simp only [go_sem, reduceIte, Nat.reduceLT, Nat.reduceEqDiff, Nat.reduceAdd, Nat.reduceMul, Nat.reduceSub, Nat.reduceLeDiff, reduceCtorEq])
    | (with_reducible refine aw_block ?_)
    | (with_reducible refine aw_ret ?_; (try simp only [thenQ, blockQ]); refine aw_ret' ?_; simp only [go_sem, reduceIte, Nat.reduceLT, Nat.reduceEqDiff, Nat.reduceAdd, Nat.reduceMul, Nat.reduceSub, Nat.reduceLeDiff, reduceCtorEq])
    | (with_reducible refine aw_exit ?_; simp only [thenQ, blockQ, reduceIte, Nat.reduceEqDiff])
    | (with_reducible refine aw_skip ?_; simp only [thenQ, blockQ])
    | (with_reducible refine gate_intro (fun h => ?_) (fun h => ?_) <;> simp only [h, go_sem, reduceIte, Nat.reduceLT, Nat.reduceEqDiff, Nat.reduceAdd, Nat.reduceMul, Nat.reduceSub, Nat.reduceLeDiff, reduceCtorEq] <;> (try simp only [decide_eq_true_eq, decide_eq_false_iff_not, Bool.not_true] at h))
    | (with_reducible refine chk_in (by kernel_rfl) ?_)
    | (with_reducible refine And.intro (And.intro (by omega) (by omega)) ?_)
    | (with_reducible refine And.intro (by omega) ?_)
    | (rw [get_in]; rotate_left; omega; simp only [go_sem, reduceIte, Nat.reduceLT, Nat.reduceEqDiff, Nat.reduceAdd, Nat.reduceMul, Nat.reduceSub, Nat.reduceLeDiff, reduceCtorEq])
    | fail)
  refine ⟨?_, fun h0 => ?_⟩
  · repeat' (first
    | (with_reducible refine aw_seq ?_)
    | (with_reducible refine kont_in ?_; simp only [go_sem, reduceIte, Nat.reduceLT, Nat.reduceEqDiff, Nat.reduceAdd, Nat.reduceMul, Nat.reduceSub, Nat.reduceLeDiff, reduceCtorEq])
    | (with_reducible refine dKont_in ?_; simp only [go_sem, reduceIte, Nat.reduceLT, Nat.reduceEqDiff, Nat.reduceAdd, Nat.reduceMul, Nat.reduceSub, Nat.reduceLeDiff, reduceCtorEq])
    | (with_reducible refine aw_drw (by kernel_rfl) kOk_nil kDet_nil ?_; simp only [go_sem, reduceIte, Nat.reduceLT, Nat.reduceEqDiff, Nat.reduceAdd, Nat.reduceMul, Nat.reduceSub, Nat.reduceLeDiff, reduceCtorEq])
    | (with_reducible refine aw_reg kOk_nil ?_; simp only [go_sem, reduceIte, Nat.reduceLT, Nat.reduceEqDiff, Nat.reduceAdd, Nat.reduceMul, Nat.reduceSub, Nat.reduceLeDiff, reduceCtorEq])
    | (with_reducible refine aw_if ?_; simp only [go_sem, reduceIte, Nat.reduceLT, Nat.reduceEqDiff, Nat.reduceAdd, Nat.reduceMul, Nat.reduceSub, Nat.reduceLeDiff, reduceCtorEq])
    | (with_reducible refine aw_block ?_)
    | (with_reducible refine aw_ret ?_; (try simp only [thenQ, blockQ]); refine aw_ret' ?_; simp only [go_sem, reduceIte, Nat.reduceLT, Nat.reduceEqDiff, Nat.reduceAdd, Nat.reduceMul, Nat.reduceSub, Nat.reduceLeDiff, reduceCtorEq])
    | (with_reducible refine aw_exit ?_; simp only [thenQ, blockQ, reduceIte, Nat.reduceEqDiff])
    | (with_reducible refine aw_skip ?_; simp only [thenQ, blockQ])
    | (with_reducible refine gate_intro (fun h => ?_) (fun h => ?_) <;> simp only [h, go_sem, reduceIte, Nat.reduceLT, Nat.reduceEqDiff, Nat.reduceAdd, Nat.reduceMul, Nat.reduceSub, Nat.reduceLeDiff, reduceCtorEq] <;> (try simp only [decide_eq_true_eq, decide_eq_false_iff_not, Bool.not_true] at h))
    | (with_reducible refine chk_in (by kernel_rfl) ?_)
    | (with_reducible refine And.intro (And.intro (by omega) (by omega)) ?_)
    | (with_reducible refine And.intro (by omega) ?_)
    | (rw [get_in]; rotate_left; omega; simp only [go_sem, reduceIte, Nat.reduceLT, Nat.reduceEqDiff, Nat.reduceAdd, Nat.reduceMul, Nat.reduceSub, Nat.reduceLeDiff, reduceCtorEq])
    | fail)
    exact ⟨_, rfl, .refl _, rfl⟩
  · have : l = [] := by simpa [erR] using h0
    subst this
    repeat' (first
    | (with_reducible refine aw_seq ?_)
    | (with_reducible refine kont_in ?_; simp only [go_sem, reduceIte, Nat.reduceLT, Nat.reduceEqDiff, Nat.reduceAdd, Nat.reduceMul, Nat.reduceSub, Nat.reduceLeDiff, reduceCtorEq])
    | (with_reducible refine dKont_in ?_; simp only [go_sem, reduceIte, Nat.reduceLT, Nat.reduceEqDiff, Nat.reduceAdd, Nat.reduceMul, Nat.reduceSub, Nat.reduceLeDiff, reduceCtorEq])
    | (with_reducible refine aw_drw (by kernel_rfl) kOk_nil kDet_nil ?_; simp only [go_sem, reduceIte, Nat.reduceLT, Nat.reduceEqDiff, Nat.reduceAdd, Nat.reduceMul, Nat.reduceSub, Nat.reduceLeDiff, reduceCtorEq])
    | (with_reducible refine aw_reg kOk_nil ?_; simp only [go_sem, reduceIte, Nat.reduceLT, Nat.reduceEqDiff, Nat.reduceAdd, Nat.reduceMul, Nat.reduceSub, Nat.reduceLeDiff, reduceCtorEq])
    | (with_reducible refine aw_if ?_; simp only [go_sem, reduceIte, Nat.reduceLT, Nat.reduceEqDiff, Nat.reduceAdd, Nat.reduceMul, Nat.reduceSub, Nat.reduceLeDiff, reduceCtorEq])
    | (with_reducible refine aw_block ?_)
    | (with_reducible refine aw_ret ?_; (try simp only [thenQ, blockQ]); refine aw_ret' ?_; simp only [go_sem, reduceIte, Nat.reduceLT, Nat.reduceEqDiff, Nat.reduceAdd, Nat.reduceMul, Nat.reduceSub, Nat.reduceLeDiff, reduceCtorEq])
    | (with_reducible refine aw_exit ?_; simp only [thenQ, blockQ, reduceIte, Nat.reduceEqDiff])
    | (with_reducible refine aw_skip ?_; simp only [thenQ, blockQ])
    | (with_reducible refine gate_intro (fun h => ?_) (fun h => ?_) <;> simp only [h, go_sem, reduceIte, Nat.reduceLT, Nat.reduceEqDiff, Nat.reduceAdd, Nat.reduceMul, Nat.reduceSub, Nat.reduceLeDiff, reduceCtorEq] <;> (try simp only [decide_eq_true_eq, decide_eq_false_iff_not, Bool.not_true] at h))
    | (with_reducible refine chk_in (by kernel_rfl) ?_)
    | (with_reducible refine And.intro (And.intro (by omega) (by omega)) ?_)
    | (with_reducible refine And.intro (by omega) ?_)
    | (rw [get_in]; rotate_left; omega; simp only [go_sem, reduceIte, Nat.reduceLT, Nat.reduceEqDiff, Nat.reduceAdd, Nat.reduceMul, Nat.reduceSub, Nat.reduceLeDiff, reduceCtorEq])
    | fail)
    exact ⟨_, rfl, .z _ _ _ (.refl _), rfl⟩
end Go.Proofs.R1

/- Entries: the reference's index, add, without. -/
set_option linter.unusedVariables false
set_option linter.unusedSimpArgs false
set_option maxRecDepth 8000
set_option maxHeartbeats 4000000
namespace Go.Proofs.R1
open Go Go.Abs

theorem all_next {α : Type} {l : List α} {P : α → Prop} {i : Nat} {x : α} (hI : ∀ k e, k < i → l[k]? = some e → P e) (hx : l[i]? = some x) (h : P x) : ∀ k e, k < i + 1 → l[k]? = some e → P e := by
  intro k e hk he
  rcases Nat.lt_or_ge k i with h1 | h1
  · exact hI k e h1 he
  · have : k = i := by omega
    subst this; rw [hx] at he; cases he; exact h
theorem drop_all {α : Type} (l : List α) (i : Nat) : (l.drop i).take (l.length - i) = l.drop i := List.take_of_length_le (by simp)
/-- The first enrolment of a candidate for a paper. -/
def fndE (l : List Er) (c p : Int) : Nat := l.findIdx fun e => decide (e.1.1 = c ∧ e.1.2.2 = p)
def ixE (l : List Er) (c p : Int) : Int := if fndE l c p < l.length then (fndE l c p : Int) else -1
theorem fndE_is {l : List Er} {c p : Int} {i : Nat} (hi : i ≤ l.length) (hlo : ∀ k e, k < i → l[k]? = some e → ¬ (e.1.1 = c ∧ e.1.2.2 = p)) (hat : ∀ e, l[i]? = some e → e.1.1 = c ∧ e.1.2.2 = p) : fndE l c p = i := by
  unfold fndE
  rcases Nat.lt_trichotomy (l.findIdx fun e => decide (e.1.1 = c ∧ e.1.2.2 = p)) i with h | h | h
  · have h1 := List.findIdx_getElem (w := Nat.lt_of_lt_of_le h hi)
    exact absurd (of_decide_eq_true h1) (hlo _ _ h (List.getElem?_eq_getElem _))
  · exact h
  · have hl : i < l.length := Nat.lt_of_lt_of_le h List.findIdx_le_length
    have := List.not_of_lt_findIdx h
    simp only [decide_eq_false_iff_not] at this
    exact absurd (hat _ (List.getElem?_eq_getElem hl)) (by simpa using this)
abbrev ixC : Con where
  α := List Er × Int × Int
  kinds := [false, false, false]
  args := fun a => [.d (.sl 4 (erR a.1)), .d (i64 a.2.1), .d (i64 a.2.2)]
  pre := fun a => a.1.length ≤ 1000000
  post := fun a r => r = ⟨[.d (i64 (ixE a.1 a.2.1 a.2.2))], []⟩
  clean := true
theorem ix_ok : CallOk Try.prog 53 ixC := by
  refine ok_of_body' 33 3 Try.func53 rfl (by decide) Try.ntmps53 (by intro a h; exact ⟨rfl, rfl⟩) (by decide) (by rintro _ a r _ rfl; rfl) ?_
  rintro ⟨(l : List Er), c, p⟩ hl
  simp only [ixC] at hl ⊢
  simp only [initE, initMm, List.length_cons, List.length_nil, Nat.reduceAdd]
  repeat' (first
    | (with_reducible refine aw_seq ?_)
    | (with_reducible refine kont_in ?_; simp only [go_sem, reduceIte, Nat.reduceLT, Nat.reduceEqDiff, Nat.reduceAdd, Nat.reduceMul, Nat.reduceSub, Nat.reduceLeDiff, reduceCtorEq])
    | (with_reducible refine dKont_in ?_; simp only [go_sem, reduceIte, Nat.reduceLT, Nat.reduceEqDiff, Nat.reduceAdd, Nat.reduceMul, Nat.reduceSub, Nat.reduceLeDiff, reduceCtorEq])
    | (with_reducible refine aw_drw (by kernel_rfl) kOk_nil kDet_nil ?_; simp only [go_sem, reduceIte, Nat.reduceLT, Nat.reduceEqDiff, Nat.reduceAdd, Nat.reduceMul, Nat.reduceSub, Nat.reduceLeDiff, reduceCtorEq])
    | (with_reducible refine aw_reg kOk_nil ?_; simp only [go_sem, reduceIte, Nat.reduceLT, Nat.reduceEqDiff, Nat.reduceAdd, Nat.reduceMul, Nat.reduceSub, Nat.reduceLeDiff, reduceCtorEq])
    | (with_reducible refine aw_if ?_; simp only [go_sem, reduceIte, Nat.reduceLT, Nat.reduceEqDiff, Nat.reduceAdd, Nat.reduceMul, Nat.reduceSub, Nat.reduceLeDiff, reduceCtorEq])
    | (with_reducible refine aw_block ?_)
    | (with_reducible refine aw_ret ?_; (try simp only [thenQ, blockQ]); refine aw_ret' ?_; simp only [go_sem, reduceIte, Nat.reduceLT, Nat.reduceEqDiff, Nat.reduceAdd, Nat.reduceMul, Nat.reduceSub, Nat.reduceLeDiff, reduceCtorEq])
    | (with_reducible refine aw_exit ?_; simp only [thenQ, blockQ, reduceIte, Nat.reduceEqDiff])
    | (with_reducible refine aw_skip ?_; simp only [thenQ, blockQ])
    | (with_reducible refine gate_intro (fun h => ?_) (fun h => ?_) <;> simp only [h, go_sem, reduceIte, Nat.reduceLT, Nat.reduceEqDiff, Nat.reduceAdd, Nat.reduceMul, Nat.reduceSub, Nat.reduceLeDiff, reduceCtorEq] <;> (try simp only [decide_eq_true_eq, decide_eq_false_iff_not, Bool.not_true] at h))
    | (with_reducible refine chk_in (by kernel_rfl) ?_)
    | (with_reducible refine And.intro (And.intro (by omega) (by omega)) ?_)
    | (with_reducible refine And.intro (by omega) ?_)
    | (rw [get_in]; rotate_left; omega; simp only [go_sem, reduceIte, Nat.reduceLT, Nat.reduceEqDiff, Nat.reduceAdd, Nat.reduceMul, Nat.reduceSub, Nat.reduceLeDiff, reduceCtorEq])
    | fail)
  refine aw_rounds (α := Nat) (fun i => ⟨envOf [(7, i64 i), (0, .sl 4 (erR l)), (1, i64 c), (2, i64 p)], memOf [], 200⟩)
    (fun i => i ≤ l.length ∧ ∀ k e, k < i → l[k]? = some e → ¬ (e.1.1 = c ∧ e.1.2.2 = p)) (fun i => l.length - i) 0 ⟨Nat.zero_le _, fun k e h => by omega⟩ (weak_in [] (by repeat' (first | trivial | constructor | rfl)) (by repeat' (first | trivial | constructor | rfl)) (by rfl) (by rfl) (by rfl)) ?_
  rintro i ⟨hi, hI⟩
  cases hx : l[i]? with
  | none =>
    have hge : l.length ≤ i := by simpa using hx
    have hc : decide ((i : Int) < (l.length : Int)) = false := by simp <;> omega
    have : i = l.length := by omega
    subst this
    repeat' (first
    | (with_reducible refine aw_seq ?_)
    | (with_reducible refine kont_in ?_; simp only [go_sem, reduceIte, Nat.reduceLT, Nat.reduceEqDiff, Nat.reduceAdd, Nat.reduceMul, Nat.reduceSub, Nat.reduceLeDiff, reduceCtorEq, hc])
    | (with_reducible refine dKont_in ?_; simp only [go_sem, reduceIte, Nat.reduceLT, Nat.reduceEqDiff, Nat.reduceAdd, Nat.reduceMul, Nat.reduceSub, Nat.reduceLeDiff, reduceCtorEq, hc])
    | (with_reducible refine aw_drw (by kernel_rfl) kOk_nil kDet_nil ?_; simp only [go_sem, reduceIte, Nat.reduceLT, Nat.reduceEqDiff, Nat.reduceAdd, Nat.reduceMul, Nat.reduceSub, Nat.reduceLeDiff, reduceCtorEq, hc])
    | (with_reducible refine aw_reg kOk_nil ?_; simp only [go_sem, reduceIte, Nat.reduceLT, Nat.reduceEqDiff, Nat.reduceAdd, Nat.reduceMul, Nat.reduceSub, Nat.reduceLeDiff, reduceCtorEq, hc])
    | (with_reducible refine aw_if ?_; simp only [go_sem, reduceIte, Nat.reduceLT, Nat.reduceEqDiff, Nat.reduceAdd, Nat.reduceMul, Nat.reduceSub, Nat.reduceLeDiff, reduceCtorEq, hc])
    | (with_reducible refine aw_block ?_)
    | (with_reducible refine aw_ret ?_; (try simp only [thenQ, blockQ]); refine aw_ret' ?_; simp only [go_sem, reduceIte, Nat.reduceLT, Nat.reduceEqDiff, Nat.reduceAdd, Nat.reduceMul, Nat.reduceSub, Nat.reduceLeDiff, reduceCtorEq, hc])
    | (with_reducible refine aw_exit ?_; simp only [thenQ, blockQ, reduceIte, Nat.reduceEqDiff])
    | (with_reducible refine aw_skip ?_; simp only [thenQ, blockQ])
    | (with_reducible refine gate_intro (fun h => ?_) (fun h => ?_) <;> simp only [h, go_sem, reduceIte, Nat.reduceLT, Nat.reduceEqDiff, Nat.reduceAdd, Nat.reduceMul, Nat.reduceSub, Nat.reduceLeDiff, reduceCtorEq, hc] <;> (try simp only [decide_eq_true_eq, decide_eq_false_iff_not, Bool.not_true] at h))
    | (with_reducible refine chk_in (by kernel_rfl) ?_)
    | (with_reducible refine And.intro (And.intro (by omega) (by omega)) ?_)
    | (with_reducible refine And.intro (by omega) ?_)
    | (rw [get_in]; rotate_left; omega; simp only [go_sem, reduceIte, Nat.reduceLT, Nat.reduceEqDiff, Nat.reduceAdd, Nat.reduceMul, Nat.reduceSub, Nat.reduceLeDiff, reduceCtorEq, hc])
    | fail)
    rw [ixE, fndE_is hi hI (fun e he => by rw [hx] at he; cases he), if_neg (by omega)]
  | some x =>
    have hlt : i < l.length := (List.getElem?_eq_some_iff.1 hx).1
    have hc : decide ((i : Int) < (l.length : Int)) = true := by simp <;> omega
    have hw := wrS (i := i) (by omega)
    obtain ⟨⟨x1, x2, x3⟩, x4⟩ := x
    repeat' (first
    | (with_reducible refine aw_seq ?_)
    | (with_reducible refine kont_in ?_; simp only [go_sem, reduceIte, Nat.reduceLT, Nat.reduceEqDiff, Nat.reduceAdd, Nat.reduceMul, Nat.reduceSub, Nat.reduceLeDiff, reduceCtorEq, hc, hw, hx, erD])
    | (with_reducible refine dKont_in ?_; simp only [go_sem, reduceIte, Nat.reduceLT, Nat.reduceEqDiff, Nat.reduceAdd, Nat.reduceMul, Nat.reduceSub, Nat.reduceLeDiff, reduceCtorEq, hc, hw, hx, erD])
    | (with_reducible refine aw_drw (by kernel_rfl) kOk_nil kDet_nil ?_; simp only [go_sem, reduceIte, Nat.reduceLT, Nat.reduceEqDiff, Nat.reduceAdd, Nat.reduceMul, Nat.reduceSub, Nat.reduceLeDiff, reduceCtorEq, hc, hw, hx, erD])
    | (with_reducible refine aw_reg kOk_nil ?_; simp only [go_sem, reduceIte, Nat.reduceLT, Nat.reduceEqDiff, Nat.reduceAdd, Nat.reduceMul, Nat.reduceSub, Nat.reduceLeDiff, reduceCtorEq, hc, hw, hx, erD])
    | (with_reducible refine aw_if ?_; simp only [go_sem, reduceIte, Nat.reduceLT, Nat.reduceEqDiff, Nat.reduceAdd, Nat.reduceMul, Nat.reduceSub, Nat.reduceLeDiff, reduceCtorEq, hc, hw, hx, erD])
    | (with_reducible refine aw_block ?_)
    | (with_reducible refine aw_ret ?_; (try simp only [thenQ, blockQ]); refine aw_ret' ?_; simp only [go_sem, reduceIte, Nat.reduceLT, Nat.reduceEqDiff, Nat.reduceAdd, Nat.reduceMul, Nat.reduceSub, Nat.reduceLeDiff, reduceCtorEq, hc, hw, hx, erD])
    | (with_reducible refine aw_exit ?_; simp only [thenQ, blockQ, reduceIte, Nat.reduceEqDiff])
    | (with_reducible refine aw_skip ?_; simp only [thenQ, blockQ])
    | (with_reducible refine gate_intro (fun h => ?_) (fun h => ?_) <;> simp only [h, go_sem, reduceIte, Nat.reduceLT, Nat.reduceEqDiff, Nat.reduceAdd, Nat.reduceMul, Nat.reduceSub, Nat.reduceLeDiff, reduceCtorEq, hc, hw, hx, erD] <;> (try simp only [decide_eq_true_eq, decide_eq_false_iff_not, Bool.not_true] at h))
    | (with_reducible refine chk_in (by kernel_rfl) ?_)
    | (with_reducible refine And.intro (And.intro (by omega) (by omega)) ?_)
    | (with_reducible refine And.intro (by omega) ?_)
    | (rw [get_in]; rotate_left; omega; simp only [go_sem, reduceIte, Nat.reduceLT, Nat.reduceEqDiff, Nat.reduceAdd, Nat.reduceMul, Nat.reduceSub, Nat.reduceLeDiff, reduceCtorEq, hc, hw, hx, erD])
    | fail)
    · rename_i h1
      rw [ixE, fndE_is hi hI (fun e he => by rw [hx] at he; cases he; exact ⟨by simpa using h1, by simpa using h⟩), if_pos hlt]
    · exact ⟨i + 1, weak_in [] (by repeat' (first | trivial | constructor | rfl)) (by repeat' (first | trivial | constructor | rfl)) (by rfl) (by rfl) (by rfl), ⟨hlt, all_next (P := fun e => ¬ (e.1.1 = c ∧ e.1.2.2 = p)) hI hx (fun hh => by simp at h; exact h hh.2)⟩, by omega⟩
    · exact ⟨i + 1, weak_in [] (by repeat' (first | trivial | constructor | rfl)) (by repeat' (first | trivial | constructor | rfl)) (by rfl) (by rfl) (by rfl), ⟨hlt, all_next (P := fun e => ¬ (e.1.1 = c ∧ e.1.2.2 = p)) hI hx (fun hh => by simp at h; exact h hh.1)⟩, by omega⟩
abbrev addC : Con where
  α := List Er × Er
  kinds := [false, false]
  args := fun a => [.d (.sl 4 (erR a.1)), .d (.agg (erD a.2))]
  pre := fun a => a.1.length ≤ 1000000
  post := fun a r => r = ⟨[.own 4 (erR (insE a.1 a.2))], []⟩
  clean := true
theorem add_ok : CallOk Try.prog 54 addC := by
  refine ok_of_body_own 37 2 Try.func54 rfl (by decide) Try.ntmps54 (by intro a h; exact ⟨rfl, rfl⟩) (by decide) (by rintro _ a r _ rfl; simpa [plainRD, plainD, plainC] using erR_plain _) ?_
  rintro ⟨(l : List Er), x⟩ hl
  simp only [addC] at hl ⊢
  simp only [initE, initMm, List.length_cons, List.length_nil, Nat.reduceAdd]
  have s1 : befC.srt = none := rfl
  have c1 : befC.clean = true := rfl
  have hK : KOk Try.prog (kOf [(67, befC)]) := kOk_cons bef_ok kOk_nil
  have hD : KDet (kOf [(67, befC)]) := kDet_cons (fun _ _ => ⟨_, rfl, by simp, fun _ h => h⟩) kDet_nil
  repeat' (first
    | (with_reducible refine aw_seq ?_)
    | (with_reducible refine kont_in ?_; simp only [go_sem, reduceIte, Nat.reduceLT, Nat.reduceEqDiff, Nat.reduceAdd, Nat.reduceMul, Nat.reduceSub, Nat.reduceLeDiff, reduceCtorEq, s1, c1])
    | (with_reducible refine dKont_in ?_; simp only [go_sem, reduceIte, Nat.reduceLT, Nat.reduceEqDiff, Nat.reduceAdd, Nat.reduceMul, Nat.reduceSub, Nat.reduceLeDiff, reduceCtorEq, s1, c1])
    | (with_reducible refine aw_drw (by kernel_rfl) hK hD ?_; simp only [go_sem, reduceIte, Nat.reduceLT, Nat.reduceEqDiff, Nat.reduceAdd, Nat.reduceMul, Nat.reduceSub, Nat.reduceLeDiff, reduceCtorEq, s1, c1])
    | (with_reducible refine aw_reg hK ?_; simp only [go_sem, reduceIte, Nat.reduceLT, Nat.reduceEqDiff, Nat.reduceAdd, Nat.reduceMul, Nat.reduceSub, Nat.reduceLeDiff, reduceCtorEq, s1, c1])
    | (with_reducible refine aw_if ?_; simp only [go_sem, reduceIte, Nat.reduceLT, Nat.reduceEqDiff, Nat.reduceAdd, Nat.reduceMul, Nat.reduceSub, Nat.reduceLeDiff, reduceCtorEq, s1, c1])
    | (with_reducible refine aw_block ?_)
    | (with_reducible refine aw_ret ?_; (try simp only [thenQ, blockQ]); refine aw_ret' ?_; simp only [go_sem, reduceIte, Nat.reduceLT, Nat.reduceEqDiff, Nat.reduceAdd, Nat.reduceMul, Nat.reduceSub, Nat.reduceLeDiff, reduceCtorEq, s1, c1])
    | (with_reducible refine aw_exit ?_; simp only [thenQ, blockQ, reduceIte, Nat.reduceEqDiff])
    | (with_reducible refine aw_skip ?_; simp only [thenQ, blockQ])
    | (with_reducible refine gate_intro (fun h => ?_) (fun h => ?_) <;> simp only [h, go_sem, reduceIte, Nat.reduceLT, Nat.reduceEqDiff, Nat.reduceAdd, Nat.reduceMul, Nat.reduceSub, Nat.reduceLeDiff, reduceCtorEq, s1, c1] <;> (try simp only [decide_eq_true_eq, decide_eq_false_iff_not, Bool.not_true] at h))
    | (with_reducible refine chk_in (by kernel_rfl) ?_)
    | (with_reducible refine And.intro (And.intro (by omega) (by omega)) ?_)
    | (with_reducible refine And.intro (by omega) ?_)
    | (rw [get_in]; rotate_left; omega; simp only [go_sem, reduceIte, Nat.reduceLT, Nat.reduceEqDiff, Nat.reduceAdd, Nat.reduceMul, Nat.reduceSub, Nat.reduceLeDiff, reduceCtorEq, s1, c1])
    | fail)
  refine aw_rounds (α := Nat) (fun i => ⟨envOf [(5, i64 i), (0, .sl 4 (erR l)), (3, .box 100 0)], memOf [(100, .cells (erD x))], 200⟩)
    (fun i => i ≤ l.length ∧ ∀ k e, k < i → l[k]? = some e → cmpE e.1 x.1 < 0) (fun i => l.length - i) 0 ⟨Nat.zero_le _, fun k e h => by omega⟩ (weak_in [(100, _)] (by repeat' (first | trivial | constructor | rfl)) (by repeat' (first | trivial | constructor | rfl)) (by rfl) (by rfl) (by rfl)) ?_
  rintro i ⟨hi, hI⟩
  cases hx : l[i]? with
  | none =>
    have hge : l.length ≤ i := by simpa using hx
    have hc : decide ((i : Int) < (l.length : Int)) = false := by simp <;> omega
    have : i = l.length := by omega
    subst this
    have hp : posE l x.1 = l.length := posE_is hi hI (fun e he => by rw [hx] at he; cases he)
    repeat' (first
    | (with_reducible refine aw_seq ?_)
    | (with_reducible refine kont_in ?_; simp only [go_sem, reduceIte, Nat.reduceLT, Nat.reduceEqDiff, Nat.reduceAdd, Nat.reduceMul, Nat.reduceSub, Nat.reduceLeDiff, reduceCtorEq, hc, s1, c1])
    | (with_reducible refine dKont_in ?_; simp only [go_sem, reduceIte, Nat.reduceLT, Nat.reduceEqDiff, Nat.reduceAdd, Nat.reduceMul, Nat.reduceSub, Nat.reduceLeDiff, reduceCtorEq, hc, s1, c1])
    | (with_reducible refine aw_drw (by kernel_rfl) hK hD ?_; simp only [go_sem, reduceIte, Nat.reduceLT, Nat.reduceEqDiff, Nat.reduceAdd, Nat.reduceMul, Nat.reduceSub, Nat.reduceLeDiff, reduceCtorEq, hc, s1, c1])
    | (with_reducible refine aw_reg hK ?_; simp only [go_sem, reduceIte, Nat.reduceLT, Nat.reduceEqDiff, Nat.reduceAdd, Nat.reduceMul, Nat.reduceSub, Nat.reduceLeDiff, reduceCtorEq, hc, s1, c1])
    | (with_reducible refine aw_if ?_; simp only [go_sem, reduceIte, Nat.reduceLT, Nat.reduceEqDiff, Nat.reduceAdd, Nat.reduceMul, Nat.reduceSub, Nat.reduceLeDiff, reduceCtorEq, hc, s1, c1])
    | (with_reducible refine aw_block ?_)
    | (with_reducible refine aw_ret ?_; (try simp only [thenQ, blockQ]); refine aw_ret' ?_; simp only [go_sem, reduceIte, Nat.reduceLT, Nat.reduceEqDiff, Nat.reduceAdd, Nat.reduceMul, Nat.reduceSub, Nat.reduceLeDiff, reduceCtorEq, hc, s1, c1])
    | (with_reducible refine aw_exit ?_; simp only [thenQ, blockQ, reduceIte, Nat.reduceEqDiff])
    | (with_reducible refine aw_skip ?_; simp only [thenQ, blockQ])
    | (with_reducible refine gate_intro (fun h => ?_) (fun h => ?_) <;> simp only [h, go_sem, reduceIte, Nat.reduceLT, Nat.reduceEqDiff, Nat.reduceAdd, Nat.reduceMul, Nat.reduceSub, Nat.reduceLeDiff, reduceCtorEq, hc, s1, c1] <;> (try simp only [decide_eq_true_eq, decide_eq_false_iff_not, Bool.not_true] at h))
    | (with_reducible refine chk_in (by kernel_rfl) ?_)
    | (with_reducible refine And.intro (And.intro (by omega) (by omega)) ?_)
    | (with_reducible refine And.intro (by omega) ?_)
    | (rw [get_in]; rotate_left; omega; simp only [go_sem, reduceIte, Nat.reduceLT, Nat.reduceEqDiff, Nat.reduceAdd, Nat.reduceMul, Nat.reduceSub, Nat.reduceLeDiff, reduceCtorEq, hc, s1, c1])
    | fail)
    refine ⟨_, rfl, ?_, rfl⟩
    rw [insE, hp, drop_all]; exact .refl _
  | some y =>
    have hlt : i < l.length := (List.getElem?_eq_some_iff.1 hx).1
    have hc : decide ((i : Int) < (l.length : Int)) = true := by simp <;> omega
    have hw := wrS (i := i) (by omega)
    repeat' (first
    | (with_reducible refine aw_seq ?_)
    | (with_reducible refine kont_in ?_; simp only [go_sem, reduceIte, Nat.reduceLT, Nat.reduceEqDiff, Nat.reduceAdd, Nat.reduceMul, Nat.reduceSub, Nat.reduceLeDiff, reduceCtorEq, hc, hw, hx, s1, c1])
    | (with_reducible refine dKont_in ?_; simp only [go_sem, reduceIte, Nat.reduceLT, Nat.reduceEqDiff, Nat.reduceAdd, Nat.reduceMul, Nat.reduceSub, Nat.reduceLeDiff, reduceCtorEq, hc, hw, hx, s1, c1])
    | (with_reducible refine aw_drw (by kernel_rfl) hK hD ?_; simp only [go_sem, reduceIte, Nat.reduceLT, Nat.reduceEqDiff, Nat.reduceAdd, Nat.reduceMul, Nat.reduceSub, Nat.reduceLeDiff, reduceCtorEq, hc, hw, hx, s1, c1])
    | (with_reducible refine aw_reg hK ?_; simp only [go_sem, reduceIte, Nat.reduceLT, Nat.reduceEqDiff, Nat.reduceAdd, Nat.reduceMul, Nat.reduceSub, Nat.reduceLeDiff, reduceCtorEq, hc, hw, hx, s1, c1])
    | (with_reducible refine aw_if ?_; simp only [go_sem, reduceIte, Nat.reduceLT, Nat.reduceEqDiff, Nat.reduceAdd, Nat.reduceMul, Nat.reduceSub, Nat.reduceLeDiff, reduceCtorEq, hc, hw, hx, s1, c1])
    | (with_reducible refine aw_block ?_)
    | (with_reducible refine aw_ret ?_; (try simp only [thenQ, blockQ]); refine aw_ret' ?_; simp only [go_sem, reduceIte, Nat.reduceLT, Nat.reduceEqDiff, Nat.reduceAdd, Nat.reduceMul, Nat.reduceSub, Nat.reduceLeDiff, reduceCtorEq, hc, hw, hx, s1, c1])
    | (with_reducible refine aw_exit ?_; simp only [thenQ, blockQ, reduceIte, Nat.reduceEqDiff])
    | (with_reducible refine aw_skip ?_; simp only [thenQ, blockQ])
    | (with_reducible refine gate_intro (fun h => ?_) (fun h => ?_) <;> simp only [h, go_sem, reduceIte, Nat.reduceLT, Nat.reduceEqDiff, Nat.reduceAdd, Nat.reduceMul, Nat.reduceSub, Nat.reduceLeDiff, reduceCtorEq, hc, hw, hx, s1, c1] <;> (try simp only [decide_eq_true_eq, decide_eq_false_iff_not, Bool.not_true] at h))
    | (with_reducible refine chk_in (by kernel_rfl) ?_)
    | (with_reducible refine And.intro (And.intro (by omega) (by omega)) ?_)
    | (with_reducible refine And.intro (by omega) ?_)
    | (refine bef_call rfl y.1 x.1 rfl ?_)
    | (rw [get_in]; rotate_left; omega; simp only [go_sem, reduceIte, Nat.reduceLT, Nat.reduceEqDiff, Nat.reduceAdd, Nat.reduceMul, Nat.reduceSub, Nat.reduceLeDiff, reduceCtorEq, hc, hw, hx, s1, c1])
    | fail)
    · exact ⟨i + 1, weak_in [(100, _)] (by repeat' (first | trivial | constructor | rfl)) (by repeat' (first | trivial | constructor | rfl)) (by rfl) (by rfl) (by rfl), ⟨hlt, all_next hI hx h⟩, by omega⟩
    · refine ⟨_, rfl, ?_, rfl⟩
      rw [insE, posE_is hi hI (fun e he => by rw [hx] at he; cases he; exact h), drop_all]; exact .refl _
abbrev woC : Con where
  α := List Er × Nat
  kinds := [false, false]
  args := fun a => [.d (.sl 4 (erR a.1)), .d (i64 a.2)]
  pre := fun a => a.1.length ≤ 1000000 ∧ a.2 < a.1.length
  post := fun a r => r = ⟨[.own 4 (erR (outE a.1 a.2))], []⟩
  clean := true
theorem wo_ok : CallOk Try.prog 55 woC := by
  refine ok_of_body_own 17 2 Try.func55 rfl (by decide) Try.ntmps55 (by intro a h; exact ⟨rfl, rfl⟩) (by decide) (by rintro _ a r _ rfl; simpa [plainRD, plainD, plainC] using erR_plain _) ?_
  rintro ⟨(l : List Er), i⟩ ⟨hl, hi⟩
  simp only [woC] at hl hi ⊢
  simp only [initE, initMm, List.length_cons, List.length_nil, Nat.reduceAdd]
  have hw := wrS (i := i) (by omega)
  repeat' (first
    | (with_reducible refine aw_seq ?_)
    | (with_reducible refine kont_in ?_; simp only [go_sem, reduceIte, Nat.reduceLT, Nat.reduceEqDiff, Nat.reduceAdd, Nat.reduceMul, Nat.reduceSub, Nat.reduceLeDiff, reduceCtorEq, hw])
    | (with_reducible refine dKont_in ?_; simp only [go_sem, reduceIte, Nat.reduceLT, Nat.reduceEqDiff, Nat.reduceAdd, Nat.reduceMul, Nat.reduceSub, Nat.reduceLeDiff, reduceCtorEq, hw])
    | (with_reducible refine aw_drw (by kernel_rfl) kOk_nil kDet_nil ?_; simp only [go_sem, reduceIte, Nat.reduceLT, Nat.reduceEqDiff, Nat.reduceAdd, Nat.reduceMul, Nat.reduceSub, Nat.reduceLeDiff, reduceCtorEq, hw])
    | (with_reducible refine aw_reg kOk_nil ?_; simp only [go_sem, reduceIte, Nat.reduceLT, Nat.reduceEqDiff, Nat.reduceAdd, Nat.reduceMul, Nat.reduceSub, Nat.reduceLeDiff, reduceCtorEq, hw])
    | (with_reducible refine aw_if ?_; simp only [go_sem, reduceIte, Nat.reduceLT, Nat.reduceEqDiff, Nat.reduceAdd, Nat.reduceMul, Nat.reduceSub, Nat.reduceLeDiff, reduceCtorEq, hw])
    | (with_reducible refine aw_block ?_)
    | (with_reducible refine aw_ret ?_; (try simp only [thenQ, blockQ]); refine aw_ret' ?_; simp only [go_sem, reduceIte, Nat.reduceLT, Nat.reduceEqDiff, Nat.reduceAdd, Nat.reduceMul, Nat.reduceSub, Nat.reduceLeDiff, reduceCtorEq, hw])
    | (with_reducible refine aw_exit ?_; simp only [thenQ, blockQ, reduceIte, Nat.reduceEqDiff])
    | (with_reducible refine aw_skip ?_; simp only [thenQ, blockQ])
    | (with_reducible refine gate_intro (fun h => ?_) (fun h => ?_) <;> simp only [h, go_sem, reduceIte, Nat.reduceLT, Nat.reduceEqDiff, Nat.reduceAdd, Nat.reduceMul, Nat.reduceSub, Nat.reduceLeDiff, reduceCtorEq, hw] <;> (try simp only [decide_eq_true_eq, decide_eq_false_iff_not, Bool.not_true] at h))
    | (with_reducible refine chk_in (by kernel_rfl) ?_)
    | (with_reducible refine And.intro (And.intro (by omega) (by omega)) ?_)
    | (with_reducible refine And.intro (by omega) ?_)
    | (rw [get_in]; rotate_left; omega; simp only [go_sem, reduceIte, Nat.reduceLT, Nat.reduceEqDiff, Nat.reduceAdd, Nat.reduceMul, Nat.reduceSub, Nat.reduceLeDiff, reduceCtorEq, hw])
    | fail)
  refine ⟨_, rfl, ?_, rfl⟩
  rw [outE, drop_all]; exact .refl _
end Go.Proofs.R1
