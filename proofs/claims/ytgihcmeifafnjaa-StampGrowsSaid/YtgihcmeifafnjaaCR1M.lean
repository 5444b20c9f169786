/- stamp.Canonical. -/
import Derived.Test.YtgihcmeifafnjaaCR1L
import Derived.Test.YtgihcmeifafnjaaCSort
set_option linter.unusedVariables false
set_option linter.unusedSimpArgs false
set_option maxRecDepth 8000
set_option maxHeartbeats 4000000
namespace Go.Proofs.R1
open Go Go.Abs

theorem dispS_false {s t : St} {x y : Int} (h : dispS s t x y = false) (hi : idS t = idS s) : t = s ∧ y = x := by
  obtain ⟨a, b, c⟩ := s; obtain ⟨d, e, f⟩ := t
  simp only [idS, Prod.mk.injEq] at hi
  simp only [dispS, hi.1, hi.2, beq_self_eq_true, Bool.true_and, Bool.or_eq_false_iff, bne_eq_false_iff_eq] at h
  exact ⟨by simp [hi.1, hi.2, h.1], h.2.symm⟩
theorem dispS_no {s t : St} {x y : Int} (h : idS t = idS s → t = s ∧ y = x) : dispS s t x y = false := by
  obtain ⟨a, b, c⟩ := s; obtain ⟨d, e, f⟩ := t
  by_cases hb : e = b ∧ f = c
  · obtain ⟨h1, h2⟩ := h (by simp [idS, hb.1, hb.2])
    cases h1; subst h2; simp [dispS]
  · simp only [dispS, Bool.and_eq_false_iff, beq_eq_false_iff_ne]
    simp only [Decidable.not_and_iff_or_not] at hb
    exact .inl (hb.imp (fun h => Ne.symm h) (fun h => Ne.symm h))

def firsts (m : List (Ident × Seen)) : List Nat := (m.filter fun p => !p.2.2).map fun p => p.2.1
theorem firsts_mem {m : List (Ident × Seen)} {i : Nat} : i ∈ firsts m ↔ ∃ id, (id, (i, false)) ∈ m := by
  simp only [firsts, List.mem_map, List.mem_filter]
  constructor
  · rintro ⟨⟨id, f, d⟩, ⟨h1, h2⟩, rfl⟩
    simp only [Bool.not_eq_true'] at h2
    subst h2; exact ⟨id, h1⟩
  · rintro ⟨id, h⟩
    exact ⟨_, ⟨h, rfl⟩, rfl⟩
theorem firsts_is {l : List St} {c : List Int} {m : List (Ident × Seen)} (h : IdInv l c l.length m) (i : Nat) : i ∈ firsts m ↔ i < l.length ∧ countsS l c i = true := by
  rw [firsts_mem]
  constructor
  · rintro ⟨id, hm⟩
    obtain ⟨h1, h2, h3, h4, h5⟩ := h.ent id i false hm
    refine ⟨h1, ?_⟩
    simp only [countsS, h2, Bool.true_and, List.all_eq_true, List.mem_range]
    intro k hk
    simp only [Bool.not_eq_true', badAt, Bool.and_eq_false_iff, Bool.or_eq_false_iff, decide_eq_false_iff_not]
    by_cases hv : valS (stAt l k) = true
    · refine .inr ⟨dispS_no fun he => ?_, ?_⟩
      · have : ¬ (stAt l k ≠ stAt l i ∨ inAt c k ≠ inAt c i) := fun hn => by
          have := h5.2 ⟨k, hk, hv, he.trans h3, hn⟩; cases this
        simp only [ne_eq, not_or, Decidable.not_not] at this
        exact this
      · by_cases hlt : k < i
        · exact .inr fun he => h4 k hlt hv (by rw [he, h3])
        · exact .inl hlt
    · exact .inl (by simpa using hv)
  · rintro ⟨h1, h2⟩
    simp only [countsS, Bool.and_eq_true, List.all_eq_true, List.mem_range, Bool.not_eq_true'] at h2
    obtain ⟨hv, hb⟩ := h2
    obtain ⟨⟨f, d⟩, hm⟩ := h.all i h1 hv
    obtain ⟨e1, e2, e3, e4, e5⟩ := h.ent _ f d hm
    have key : ∀ k, k < l.length → valS (stAt l k) = true → idS (stAt l k) = idS (stAt l i) → stAt l k = stAt l i ∧ inAt c k = inAt c i := by
      intro k hk hvk he
      have := hb k hk
      simp only [badAt, hvk, Bool.true_and, Bool.or_eq_false_iff] at this
      exact dispS_false this.1 he
    have hfi : stAt l f = stAt l i ∧ inAt c f = inAt c i := key f e1 e2 e3
    have hd : d = false := by
      cases d with
      | false => rfl
      | true =>
        obtain ⟨k, k1, k2, k3, k4⟩ := e5.1 rfl
        have := key k k1 k2 k3
        rw [this.1, this.2, hfi.1, hfi.2] at k4
        simp at k4
    have hf : f = i := by
      rcases Nat.lt_or_ge i f with h' | h'
      · exact absurd rfl (e4 i h' hv)
      · rcases Nat.lt_or_ge f i with h2 | h2
        · have := hb f e1
          rw [hfi.1] at e2; simp [badAt, e2, h2, hfi.1] at this
        · omega
    subst hd; subst hf
    exact ⟨_, hm⟩
theorem firsts_nodup {l : List St} {c : List Int} {n : Nat} {m : List (Ident × Seen)} (h : IdInv l c n m) : (firsts m).Nodup := by
  have key : ∀ m' : List (Ident × Seen), (∀ p, p ∈ m' → p ∈ m) → (m'.map Prod.fst).Nodup → (firsts m').Nodup := by
    intro m' hs hn
    induction m' with
    | nil => simp [firsts]
    | cons p m' ih =>
      simp only [List.map_cons, List.nodup_cons] at hn
      have ih := ih (fun q hq => hs q (List.mem_cons_of_mem _ hq)) hn.2
      obtain ⟨id, f, d⟩ := p
      cases d with
      | true => simpa [firsts] using ih
      | false =>
        have e : firsts ((id, (f, false)) :: m') = f :: firsts m' := by simp [firsts]
        rw [e, List.nodup_cons]
        refine ⟨fun hm => ?_, ih⟩
        obtain ⟨id2, h2⟩ := firsts_mem.1 hm
        have a := (h.ent id f false (hs _ (by simp))).2.2.1
        have b := (h.ent id2 f false (hs _ (List.mem_cons_of_mem _ h2))).2.2.1
        rw [← a, b] at hn
        exact hn.1 (List.mem_map.2 ⟨_, h2, rfl⟩)
  exact key m (fun _ h => h) h.keys
theorem canon_of {l : List St} {c : List Int} {o : List Nat} (hm : ∀ i, i ∈ o ↔ i < l.length ∧ countsS l c i = true) (hn : o.Nodup) (hs : o.Pairwise (fun i j => ¬ cmpS (stAt l j) (stAt l i) < 0)) : IsCanon l c o := by
  refine ⟨?_, hm⟩
  refine List.Pairwise.imp_of_mem ?_ (List.Pairwise.and hs hn)
  intro i j hi hj ⟨h1, h2⟩
  have h0 : cmpS (stAt l i) (stAt l j) ≠ 0 := fun h => h2 (counts_apart ((hm i).1 hi).1 ((hm j).1 hj).1 ((hm i).1 hi).2 ((hm j).1 hj).2 (cmpS_eq.1 h))
  rw [← cmpS_gt] at h1
  omega

theorem idM_get {m : List (Ident × Seen)} {j : Nat} {k v : D} (h : (idM m)[j]? = some (k, v)) : ∃ p, m[j]? = some p ∧ k = .agg (idD p.1) ∧ v = seenD p.2 := by
  simp only [idM, mapE, List.getElem?_map, Option.map_eq_some_iff] at h
  obtain ⟨p, h1, h2⟩ := h
  cases h2; exact ⟨p, h1, rfl, rfl⟩
theorem idM_erase (m : List (Ident × Seen)) (j : Nat) : (idM m).eraseIdx j = idM (m.eraseIdx j) := by
  simp only [idM, mapE]
  induction m generalizing j with
  | nil => rfl
  | cons p m ih =>
    cases j with
    | zero => rfl
    | succ j => simp only [List.map_cons, List.eraseIdx_cons_succ, ih]
theorem erase_perm {α : Type} {m : List α} {j : Nat} {p : α} (h : m[j]? = some p) : (p :: m.eraseIdx j).Perm m := by
  induction m generalizing j with
  | nil => simp at h
  | cons a m ih =>
    cases j with
    | zero => simp at h; subst h; exact .refl _
    | succ j =>
      simp only [List.getElem?_cons_succ] at h
      simp only [List.eraseIdx_cons_succ]
      exact (List.Perm.swap a p _).trans ((ih h).cons a)
theorem firsts_perm {m m' : List (Ident × Seen)} (h : m.Perm m') : (firsts m).Perm (firsts m') := (h.filter _).map _
theorem firsts_app (m m' : List (Ident × Seen)) : firsts (m ++ m') = firsts m ++ firsts m' := by simp [firsts]
theorem natI_app (m m' : List Nat) : natI (m ++ m') = natI m ++ natI m' := by simp [natI]

theorem canF_nodup (l : List St) (c : List Int) : (canF l c).Nodup :=
  (canF_is l c).1.imp fun {a b} (h : cmpS (stAt l a) (stAt l b) < 0) (he : a = b) => by subst he; exact cmpS_irr _ h
theorem firsts_can {l : List St} {c : List Int} {m : List (Ident × Seen)} (h : IdInv l c l.length m) : (firsts m).Perm (canF l c) :=
  (List.perm_ext_iff_of_nodup (firsts_nodup h) (canF_nodup l c)).2 fun i => by rw [firsts_is h, (canF_is l c).2]
def decN : List D → Nat
  | [.v (.int _ n)] => n.toNat
  | _ => 0

theorem canP_ok : CallOk Try.prog 20 canC := by
  refine ok_of_body_own 37 2 Try.func20 rfl (by decide) Try.ntmps20 (by intro a h; exact ⟨rfl, rfl⟩) (by decide) (by rintro _ a r _ rfl; simp [plainRD, plainD, plainC, intL]) ?_
  rintro ⟨l, c⟩ h1
  simp only [canC] at h1 ⊢
  simp only [initE, initMm, List.length_cons, List.length_nil, Nat.reduceAdd]
  have hK : KOk Try.prog (kOf [(37, identsC), (38, srtC 1 false), (39, byStampC)]) := kOk_cons idents_ok (kOk_sort sortok38 (kOk_cons byStamp_ok kOk_nil))
  by_cases hl : c.length = l.length
  case neg =>
    have hc : ((c.length : Int) != (l.length : Int)) = true := by simp; omega
    repeat' (first
    | (with_reducible refine aw_seq ?_)
    | (with_reducible refine kont_in ?_; simp only [go_sem, reduceIte, Nat.reduceLT, Nat.reduceEqDiff, Nat.reduceAdd, Nat.reduceMul, Nat.reduceSub, Nat.reduceLeDiff, reduceCtorEq, hc])
    | (with_reducible refine dKont_in ?_; simp only [go_sem, reduceIte, Nat.reduceLT, Nat.reduceEqDiff, Nat.reduceAdd, Nat.reduceMul, Nat.reduceSub, Nat.reduceLeDiff, reduceCtorEq, hc])
    | (with_reducible refine aw_drw (by kernel_rfl) hK kDet_nil ?_; simp only [go_sem, reduceIte, Nat.reduceLT, Nat.reduceEqDiff, Nat.reduceAdd, Nat.reduceMul, Nat.reduceSub, Nat.reduceLeDiff, reduceCtorEq, hc])
    | (with_reducible refine aw_reg hK ?_; simp only [go_sem, reduceIte, Nat.reduceLT, Nat.reduceEqDiff, Nat.reduceAdd, Nat.reduceMul, Nat.reduceSub, Nat.reduceLeDiff, reduceCtorEq, hc])
    | (with_reducible refine aw_if ?_; simp only [go_sem, reduceIte, Nat.reduceLT, Nat.reduceEqDiff, Nat.reduceAdd, Nat.reduceMul, Nat.reduceSub, Nat.reduceLeDiff, reduceCtorEq, hc])
    | (with_reducible refine aw_block ?_)
    | (with_reducible refine aw_ret ?_; (try simp only [thenQ, blockQ]); refine aw_ret' ?_; simp only [go_sem, reduceIte, Nat.reduceLT, Nat.reduceEqDiff, Nat.reduceAdd, Nat.reduceMul, Nat.reduceSub, Nat.reduceLeDiff, reduceCtorEq, hc])
    | (with_reducible refine aw_exit ?_; simp only [thenQ, blockQ, reduceIte, Nat.reduceEqDiff])
    | (with_reducible refine aw_skip ?_; simp only [thenQ, blockQ])
    | (with_reducible refine gate_intro (fun h => ?_) (fun h => ?_) <;> simp only [h, go_sem, reduceIte, Nat.reduceLT, Nat.reduceEqDiff, Nat.reduceAdd, Nat.reduceMul, Nat.reduceSub, Nat.reduceLeDiff, reduceCtorEq, hc] <;> (try simp only [decide_eq_true_eq, decide_eq_false_iff_not, Bool.not_true] at h))
    | (with_reducible refine chk_in (by kernel_rfl) ?_)
    | (with_reducible refine And.intro (And.intro (by omega) (by omega)) ?_)
    | (with_reducible refine And.intro (by omega) ?_)
    | (rw [get_in]; rotate_left; omega; simp only [go_sem, reduceIte, Nat.reduceLT, Nat.reduceEqDiff, Nat.reduceAdd, Nat.reduceMul, Nat.reduceSub, Nat.reduceLeDiff, reduceCtorEq, hc])
    | fail)
    refine ⟨_, rfl, ?_, rfl⟩
    simp only [canR, ne_eq, hl, not_false_eq_true, if_true]
    exact .z _ _ _ (.refl _)
  have hc : ((c.length : Int) != (l.length : Int)) = false := by simp; omega
  repeat' (first
    | (with_reducible refine aw_seq ?_)
    | (with_reducible refine kont_in ?_; simp only [go_sem, reduceIte, Nat.reduceLT, Nat.reduceEqDiff, Nat.reduceAdd, Nat.reduceMul, Nat.reduceSub, Nat.reduceLeDiff, reduceCtorEq, hc])
    | (with_reducible refine dKont_in ?_; simp only [go_sem, reduceIte, Nat.reduceLT, Nat.reduceEqDiff, Nat.reduceAdd, Nat.reduceMul, Nat.reduceSub, Nat.reduceLeDiff, reduceCtorEq, hc])
    | (with_reducible refine aw_drw (by kernel_rfl) hK kDet_nil ?_; simp only [go_sem, reduceIte, Nat.reduceLT, Nat.reduceEqDiff, Nat.reduceAdd, Nat.reduceMul, Nat.reduceSub, Nat.reduceLeDiff, reduceCtorEq, hc])
    | (with_reducible refine aw_reg hK ?_; simp only [go_sem, reduceIte, Nat.reduceLT, Nat.reduceEqDiff, Nat.reduceAdd, Nat.reduceMul, Nat.reduceSub, Nat.reduceLeDiff, reduceCtorEq, hc])
    | (with_reducible refine aw_if ?_; simp only [go_sem, reduceIte, Nat.reduceLT, Nat.reduceEqDiff, Nat.reduceAdd, Nat.reduceMul, Nat.reduceSub, Nat.reduceLeDiff, reduceCtorEq, hc])
    | (with_reducible refine aw_block ?_)
    | (with_reducible refine aw_ret ?_; (try simp only [thenQ, blockQ]); refine aw_ret' ?_; simp only [go_sem, reduceIte, Nat.reduceLT, Nat.reduceEqDiff, Nat.reduceAdd, Nat.reduceMul, Nat.reduceSub, Nat.reduceLeDiff, reduceCtorEq, hc])
    | (with_reducible refine aw_exit ?_; simp only [thenQ, blockQ, reduceIte, Nat.reduceEqDiff])
    | (with_reducible refine aw_skip ?_; simp only [thenQ, blockQ])
    | (with_reducible refine gate_intro (fun h => ?_) (fun h => ?_) <;> simp only [h, go_sem, reduceIte, Nat.reduceLT, Nat.reduceEqDiff, Nat.reduceAdd, Nat.reduceMul, Nat.reduceSub, Nat.reduceLeDiff, reduceCtorEq, hc] <;> (try simp only [decide_eq_true_eq, decide_eq_false_iff_not, Bool.not_true] at h))
    | (with_reducible refine chk_in (by kernel_rfl) ?_)
    | (with_reducible refine And.intro (And.intro (by omega) (by omega)) ?_)
    | (with_reducible refine And.intro (by omega) ?_)
    | (refine idents_call rfl l c rfl rfl ⟨hl, h1⟩ (memOf_free rfl) (fun m hm => ?_))
    | (rw [get_in]; rotate_left; omega; simp only [go_sem, reduceIte, Nat.reduceLT, Nat.reduceEqDiff, Nat.reduceAdd, Nat.reduceMul, Nat.reduceSub, Nat.reduceLeDiff, reduceCtorEq, hc])
    | fail)
  refine aw_nil 6 100 1 rfl rfl ?_
  refine aw_rounds (α := List (Ident × Seen) × List (Ident × Seen) × Option (D × D)) (fun x => ⟨envOf [(0, .sl 3 (stR l)), (1, .sl 1 (intL c)), (2, .box 102 0), (4, .nils), (5, i64 0), (6, .row 100), (17, .it 101)], memOf [(100, .row 1 (intL (natI (firsts x.1))) true), (101, .iter (idM x.2.1) x.2.2), (102, .cells [.sl 3 (stR l)])], 200⟩)
    (fun x => (x.1 ++ x.2.1).Perm m) (fun x => x.2.1.length) ([], m, none) (.refl _) (weak_in [(100, 100), (101, _), (102, _)] (by repeat' (first | trivial | constructor | rfl)) (by repeat' (first | trivial | constructor | rfl)) (by rfl) (by rfl) (by rfl)) ?_
  rintro ⟨done, rem, last⟩ hp
  simp only at hp ⊢
  have hfl : (firsts done).length ≤ 1000000 := by
    have e1 := (firsts_perm hp).length_eq
    rw [firsts_app, List.length_append] at e1
    have e2 := (firsts_can hm).length_eq
    have e3 := canF_len l c
    omega
  repeat' (first
    | (with_reducible refine aw_seq ?_)
    | (with_reducible refine kont_in ?_; simp only [go_sem, reduceIte, Nat.reduceLT, Nat.reduceEqDiff, Nat.reduceAdd, Nat.reduceMul, Nat.reduceSub, Nat.reduceLeDiff, reduceCtorEq])
    | (with_reducible refine dKont_in ?_; simp only [go_sem, reduceIte, Nat.reduceLT, Nat.reduceEqDiff, Nat.reduceAdd, Nat.reduceMul, Nat.reduceSub, Nat.reduceLeDiff, reduceCtorEq])
    | (with_reducible refine aw_drw (by kernel_rfl) hK kDet_nil ?_; simp only [go_sem, reduceIte, Nat.reduceLT, Nat.reduceEqDiff, Nat.reduceAdd, Nat.reduceMul, Nat.reduceSub, Nat.reduceLeDiff, reduceCtorEq])
    | (with_reducible refine aw_reg hK ?_; simp only [go_sem, reduceIte, Nat.reduceLT, Nat.reduceEqDiff, Nat.reduceAdd, Nat.reduceMul, Nat.reduceSub, Nat.reduceLeDiff, reduceCtorEq])
    | (with_reducible refine aw_if ?_; simp only [go_sem, reduceIte, Nat.reduceLT, Nat.reduceEqDiff, Nat.reduceAdd, Nat.reduceMul, Nat.reduceSub, Nat.reduceLeDiff, reduceCtorEq])
    | (with_reducible refine aw_block ?_)
    | (with_reducible refine aw_ret ?_; (try simp only [thenQ, blockQ]); refine aw_ret' ?_; simp only [go_sem, reduceIte, Nat.reduceLT, Nat.reduceEqDiff, Nat.reduceAdd, Nat.reduceMul, Nat.reduceSub, Nat.reduceLeDiff, reduceCtorEq])
    | (with_reducible refine aw_exit ?_; simp only [thenQ, blockQ, reduceIte, Nat.reduceEqDiff])
    | (with_reducible refine aw_skip ?_; simp only [thenQ, blockQ])
    | (with_reducible refine gate_intro (fun h => ?_) (fun h => ?_) <;> simp only [h, go_sem, reduceIte, Nat.reduceLT, Nat.reduceEqDiff, Nat.reduceAdd, Nat.reduceMul, Nat.reduceSub, Nat.reduceLeDiff, reduceCtorEq] <;> (try simp only [decide_eq_true_eq, decide_eq_false_iff_not, Bool.not_true] at h))
    | (with_reducible refine chk_in (by kernel_rfl) ?_)
    | (with_reducible refine And.intro (And.intro (by omega) (by omega)) ?_)
    | (with_reducible refine And.intro (by omega) ?_)
    | (rw [get_in]; rotate_left; omega; simp only [go_sem, reduceIte, Nat.reduceLT, Nat.reduceEqDiff, Nat.reduceAdd, Nat.reduceMul, Nat.reduceSub, Nat.reduceLeDiff, reduceCtorEq])
    | fail)
  refine ⟨fun h => ?_, fun j k v hj => ?_⟩
  · repeat' (first
    | (with_reducible refine aw_seq ?_)
    | (with_reducible refine kont_in ?_; simp only [go_sem, reduceIte, Nat.reduceLT, Nat.reduceEqDiff, Nat.reduceAdd, Nat.reduceMul, Nat.reduceSub, Nat.reduceLeDiff, reduceCtorEq])
    | (with_reducible refine dKont_in ?_; simp only [go_sem, reduceIte, Nat.reduceLT, Nat.reduceEqDiff, Nat.reduceAdd, Nat.reduceMul, Nat.reduceSub, Nat.reduceLeDiff, reduceCtorEq])
    | (with_reducible refine aw_drw (by kernel_rfl) hK kDet_nil ?_; simp only [go_sem, reduceIte, Nat.reduceLT, Nat.reduceEqDiff, Nat.reduceAdd, Nat.reduceMul, Nat.reduceSub, Nat.reduceLeDiff, reduceCtorEq])
    | (with_reducible refine aw_reg hK ?_; simp only [go_sem, reduceIte, Nat.reduceLT, Nat.reduceEqDiff, Nat.reduceAdd, Nat.reduceMul, Nat.reduceSub, Nat.reduceLeDiff, reduceCtorEq])
    | (with_reducible refine aw_if ?_; simp only [go_sem, reduceIte, Nat.reduceLT, Nat.reduceEqDiff, Nat.reduceAdd, Nat.reduceMul, Nat.reduceSub, Nat.reduceLeDiff, reduceCtorEq])
    | (with_reducible refine aw_block ?_)
    | (with_reducible refine aw_ret ?_; (try simp only [thenQ, blockQ]); refine aw_ret' ?_; simp only [go_sem, reduceIte, Nat.reduceLT, Nat.reduceEqDiff, Nat.reduceAdd, Nat.reduceMul, Nat.reduceSub, Nat.reduceLeDiff, reduceCtorEq])
    | (with_reducible refine aw_exit ?_; simp only [thenQ, blockQ, reduceIte, Nat.reduceEqDiff])
    | (with_reducible refine aw_skip ?_; simp only [thenQ, blockQ])
    | (with_reducible refine gate_intro (fun h => ?_) (fun h => ?_) <;> simp only [h, go_sem, reduceIte, Nat.reduceLT, Nat.reduceEqDiff, Nat.reduceAdd, Nat.reduceMul, Nat.reduceSub, Nat.reduceLeDiff, reduceCtorEq] <;> (try simp only [decide_eq_true_eq, decide_eq_false_iff_not, Bool.not_true] at h))
    | (with_reducible refine chk_in (by kernel_rfl) ?_)
    | (with_reducible refine And.intro (And.intro (by omega) (by omega)) ?_)
    | (with_reducible refine And.intro (by omega) ?_)
    | (rw [get_in]; rotate_left; omega; simp only [go_sem, reduceIte, Nat.reduceLT, Nat.reduceEqDiff, Nat.reduceAdd, Nat.reduceMul, Nat.reduceSub, Nat.reduceLeDiff, reduceCtorEq])
    | fail)
    all_goals
      rename_i he
      have he : rem = [] := by
        simpa [idM, mapE] using he
      subst he
      rw [List.append_nil] at hp
      have hcan := (firsts_perm hp).trans (firsts_can hm)
      have hcl := hcan.length_eq
    · refine ⟨_, rfl, ?_, rfl⟩
      have h' : 300 < (canF l c).length := by omega
      simp only [canR, ne_eq, hl, not_true_eq_false, if_false, h', if_true]
      exact .z _ _ _ (.refl _)
    · refine sort_call (fun i : Nat => [i64 i]) decN (fun a => by simp [decN]) (firsts done) (fun i j => cmpS (stAt l i) (stAt l j)) rfl (by simp only [memOf_cons, if_true, intL, natI, List.map_map]; rfl) rfl rfl rfl (by decide) (by omega) (fun x _ => cmpS_irr _) (fun x y z _ _ _ h k => cmpS_trans h k) (fun x y z _ _ _ h k => cmpS_ntrans h k)
        (fun x y hx hy => ⟨(l, x, y), rfl, ⟨((canF_is l c).2 x |>.1 (hcan.mem_iff.1 hx)).1, ((canF_is l c).2 y |>.1 (hcan.mem_iff.1 hy)).1⟩, fun r hr => hr⟩) (fun o ho hs => ?_)
      have hoc : o = canF l c := canF_of (canon_of (fun i => by rw [(ho.trans hcan).mem_iff, (canF_is l c).2]) ((ho.trans hcan).nodup_iff.2 (canF_nodup l c)) hs)
      subst hoc
      simp only [upd_memOf]
      repeat' (first
    | (with_reducible refine aw_seq ?_)
    | (with_reducible refine kont_in ?_; simp only [go_sem, reduceIte, Nat.reduceLT, Nat.reduceEqDiff, Nat.reduceAdd, Nat.reduceMul, Nat.reduceSub, Nat.reduceLeDiff, reduceCtorEq])
    | (with_reducible refine dKont_in ?_; simp only [go_sem, reduceIte, Nat.reduceLT, Nat.reduceEqDiff, Nat.reduceAdd, Nat.reduceMul, Nat.reduceSub, Nat.reduceLeDiff, reduceCtorEq])
    | (with_reducible refine aw_drw (by kernel_rfl) hK kDet_nil ?_; simp only [go_sem, reduceIte, Nat.reduceLT, Nat.reduceEqDiff, Nat.reduceAdd, Nat.reduceMul, Nat.reduceSub, Nat.reduceLeDiff, reduceCtorEq])
    | (with_reducible refine aw_reg hK ?_; simp only [go_sem, reduceIte, Nat.reduceLT, Nat.reduceEqDiff, Nat.reduceAdd, Nat.reduceMul, Nat.reduceSub, Nat.reduceLeDiff, reduceCtorEq])
    | (with_reducible refine aw_if ?_; simp only [go_sem, reduceIte, Nat.reduceLT, Nat.reduceEqDiff, Nat.reduceAdd, Nat.reduceMul, Nat.reduceSub, Nat.reduceLeDiff, reduceCtorEq])
    | (with_reducible refine aw_block ?_)
    | (with_reducible refine aw_ret ?_; (try simp only [thenQ, blockQ]); refine aw_ret' ?_; simp only [go_sem, reduceIte, Nat.reduceLT, Nat.reduceEqDiff, Nat.reduceAdd, Nat.reduceMul, Nat.reduceSub, Nat.reduceLeDiff, reduceCtorEq])
    | (with_reducible refine aw_exit ?_; simp only [thenQ, blockQ, reduceIte, Nat.reduceEqDiff])
    | (with_reducible refine aw_skip ?_; simp only [thenQ, blockQ])
    | (with_reducible refine gate_intro (fun h => ?_) (fun h => ?_) <;> simp only [h, go_sem, reduceIte, Nat.reduceLT, Nat.reduceEqDiff, Nat.reduceAdd, Nat.reduceMul, Nat.reduceSub, Nat.reduceLeDiff, reduceCtorEq] <;> (try simp only [decide_eq_true_eq, decide_eq_false_iff_not, Bool.not_true] at h))
    | (with_reducible refine chk_in (by kernel_rfl) ?_)
    | (with_reducible refine And.intro (And.intro (by omega) (by omega)) ?_)
    | (with_reducible refine And.intro (by omega) ?_)
    | (rw [get_in]; rotate_left; omega; simp only [go_sem, reduceIte, Nat.reduceLT, Nat.reduceEqDiff, Nat.reduceAdd, Nat.reduceMul, Nat.reduceSub, Nat.reduceLeDiff, reduceCtorEq])
    | fail)
      refine ⟨_, rfl, ?_, rfl⟩
      have h' : ¬ 300 < (canF l c).length := by omega
      simp only [canR, ne_eq, hl, not_true_eq_false, if_false, h', intL, natI, List.map_map]
      exact .refl _
  · obtain ⟨⟨id, f, d⟩, hr, rfl, rfl⟩ := idM_get hj
    have hperm : ((done ++ [(id, (f, d))]) ++ rem.eraseIdx j).Perm m := by
      refine List.Perm.trans ?_ hp
      rw [List.append_assoc]
      exact (erase_perm hr).append_left done
    have hlen : (rem.eraseIdx j).length < rem.length := by
      have := (erase_perm hr).length_eq
      simp at this; omega
    cases d with
    | true =>
      repeat' (first
    | (with_reducible refine aw_seq ?_)
    | (with_reducible refine kont_in ?_; simp only [go_sem, reduceIte, Nat.reduceLT, Nat.reduceEqDiff, Nat.reduceAdd, Nat.reduceMul, Nat.reduceSub, Nat.reduceLeDiff, reduceCtorEq, seenD, idM_erase])
    | (with_reducible refine dKont_in ?_; simp only [go_sem, reduceIte, Nat.reduceLT, Nat.reduceEqDiff, Nat.reduceAdd, Nat.reduceMul, Nat.reduceSub, Nat.reduceLeDiff, reduceCtorEq, seenD, idM_erase])
    | (with_reducible refine aw_drw (by kernel_rfl) hK kDet_nil ?_; simp only [go_sem, reduceIte, Nat.reduceLT, Nat.reduceEqDiff, Nat.reduceAdd, Nat.reduceMul, Nat.reduceSub, Nat.reduceLeDiff, reduceCtorEq, seenD, idM_erase])
    | (with_reducible refine aw_reg hK ?_; simp only [go_sem, reduceIte, Nat.reduceLT, Nat.reduceEqDiff, Nat.reduceAdd, Nat.reduceMul, Nat.reduceSub, Nat.reduceLeDiff, reduceCtorEq, seenD, idM_erase])
    | (with_reducible refine aw_if ?_; simp only [go_sem, reduceIte, Nat.reduceLT, Nat.reduceEqDiff, Nat.reduceAdd, Nat.reduceMul, Nat.reduceSub, Nat.reduceLeDiff, reduceCtorEq, seenD, idM_erase])
    | (with_reducible refine aw_block ?_)
    | (with_reducible refine aw_ret ?_; (try simp only [thenQ, blockQ]); refine aw_ret' ?_; simp only [go_sem, reduceIte, Nat.reduceLT, Nat.reduceEqDiff, Nat.reduceAdd, Nat.reduceMul, Nat.reduceSub, Nat.reduceLeDiff, reduceCtorEq, seenD, idM_erase])
    | (with_reducible refine aw_exit ?_; simp only [thenQ, blockQ, reduceIte, Nat.reduceEqDiff])
    | (with_reducible refine aw_skip ?_; simp only [thenQ, blockQ])
    | (with_reducible refine gate_intro (fun h => ?_) (fun h => ?_) <;> simp only [h, go_sem, reduceIte, Nat.reduceLT, Nat.reduceEqDiff, Nat.reduceAdd, Nat.reduceMul, Nat.reduceSub, Nat.reduceLeDiff, reduceCtorEq, seenD, idM_erase] <;> (try simp only [decide_eq_true_eq, decide_eq_false_iff_not, Bool.not_true] at h))
    | (with_reducible refine chk_in (by kernel_rfl) ?_)
    | (with_reducible refine And.intro (And.intro (by omega) (by omega)) ?_)
    | (with_reducible refine And.intro (by omega) ?_)
    | (rw [get_in]; rotate_left; omega; simp only [go_sem, reduceIte, Nat.reduceLT, Nat.reduceEqDiff, Nat.reduceAdd, Nat.reduceMul, Nat.reduceSub, Nat.reduceLeDiff, reduceCtorEq, seenD, idM_erase])
    | fail)
      have e : firsts (done ++ [(id, (f, true))]) = firsts done := by simp [firsts]
      refine ⟨(done ++ [(id, (f, true))], rem.eraseIdx j, some (.agg (idD id), .agg [i64 f, bl true])), ?_, hperm, hlen⟩
      simp only [e]
      exact weak_in [(100, 100), (101, _), (102, _)] (by repeat' (first | trivial | constructor | rfl)) (by repeat' (first | trivial | constructor | rfl)) (by rfl) (by rfl) (by rfl)
    | false =>
      repeat' (first
    | (with_reducible refine aw_seq ?_)
    | (with_reducible refine kont_in ?_; simp only [go_sem, reduceIte, Nat.reduceLT, Nat.reduceEqDiff, Nat.reduceAdd, Nat.reduceMul, Nat.reduceSub, Nat.reduceLeDiff, reduceCtorEq, seenD, idM_erase])
    | (with_reducible refine dKont_in ?_; simp only [go_sem, reduceIte, Nat.reduceLT, Nat.reduceEqDiff, Nat.reduceAdd, Nat.reduceMul, Nat.reduceSub, Nat.reduceLeDiff, reduceCtorEq, seenD, idM_erase])
    | (with_reducible refine aw_drw (by kernel_rfl) hK kDet_nil ?_; simp only [go_sem, reduceIte, Nat.reduceLT, Nat.reduceEqDiff, Nat.reduceAdd, Nat.reduceMul, Nat.reduceSub, Nat.reduceLeDiff, reduceCtorEq, seenD, idM_erase])
    | (with_reducible refine aw_reg hK ?_; simp only [go_sem, reduceIte, Nat.reduceLT, Nat.reduceEqDiff, Nat.reduceAdd, Nat.reduceMul, Nat.reduceSub, Nat.reduceLeDiff, reduceCtorEq, seenD, idM_erase])
    | (with_reducible refine aw_if ?_; simp only [go_sem, reduceIte, Nat.reduceLT, Nat.reduceEqDiff, Nat.reduceAdd, Nat.reduceMul, Nat.reduceSub, Nat.reduceLeDiff, reduceCtorEq, seenD, idM_erase])
    | (with_reducible refine aw_block ?_)
    | (with_reducible refine aw_ret ?_; (try simp only [thenQ, blockQ]); refine aw_ret' ?_; simp only [go_sem, reduceIte, Nat.reduceLT, Nat.reduceEqDiff, Nat.reduceAdd, Nat.reduceMul, Nat.reduceSub, Nat.reduceLeDiff, reduceCtorEq, seenD, idM_erase])
    | (with_reducible refine aw_exit ?_; simp only [thenQ, blockQ, reduceIte, Nat.reduceEqDiff])
    | (with_reducible refine aw_skip ?_; simp only [thenQ, blockQ])
    | (with_reducible refine gate_intro (fun h => ?_) (fun h => ?_) <;> simp only [h, go_sem, reduceIte, Nat.reduceLT, Nat.reduceEqDiff, Nat.reduceAdd, Nat.reduceMul, Nat.reduceSub, Nat.reduceLeDiff, reduceCtorEq, seenD, idM_erase] <;> (try simp only [decide_eq_true_eq, decide_eq_false_iff_not, Bool.not_true] at h))
    | (with_reducible refine chk_in (by kernel_rfl) ?_)
    | (with_reducible refine And.intro (And.intro (by omega) (by omega)) ?_)
    | (with_reducible refine And.intro (by omega) ?_)
    | (rw [get_in]; rotate_left; omega; simp only [go_sem, reduceIte, Nat.reduceLT, Nat.reduceEqDiff, Nat.reduceAdd, Nat.reduceMul, Nat.reduceSub, Nat.reduceLeDiff, reduceCtorEq, seenD, idM_erase])
    | fail)
      have e : natI (firsts (done ++ [(id, (f, false))])) = natI (firsts done) ++ [(f : Int)] := by simp [firsts, natI]
      refine ⟨(done ++ [(id, (f, false))], rem.eraseIdx j, some (.agg (idD id), .agg [i64 f, bl false])), ?_, hperm, hlen⟩
      simp only [e]
      exact weak_in [(100, _), (101, _), (102, _)] (by repeat' (first | trivial | constructor | rfl)) (by repeat' (first | trivial | constructor | rfl)) (by rfl) (by rfl) (by rfl)
theorem canP_call {K : Kt} (hk : K 20 = some canC) {np fid : Nat} {M : Mem} {nx : D → Mem → Prop} (l : List St) (c : List Int) {x y : D} (hx : fz M true 4 x = some (.sl 3 (stR l))) (hy : fz M true 4 y = some (.sl 1 (intL c))) (hp : l.length ≤ 1000000) (hf : ∀ j, M (fid + j) = none)
    (hn : nx (.tup [.row fid, i64 (canR l c).2]) (upd M fid (some (.row 1 (intL (canR l c).1) true)))) : semCall K np 20 [x, y] M fid nx :=
  call_clR hk rfl rfl (l, c) (by simp only [argsV, mapO, hx, hy]; rfl) hp hf (by rintro r rfl; exact hn)
end Go.Proofs.R1
