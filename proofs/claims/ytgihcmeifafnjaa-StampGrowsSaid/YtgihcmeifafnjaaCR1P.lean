/- Disputed. -/
import Derived.Test.YtgihcmeifafnjaaCR1O
set_option linter.unusedVariables false
set_option linter.unusedSimpArgs false
set_option maxRecDepth 8000
set_option maxHeartbeats 4000000
namespace Go.Proofs.R1
open Go Go.Abs

theorem nodup_sub_len {α : Type} [DecidableEq α] {l r : List α} (hn : l.Nodup) (hs : ∀ x, x ∈ l → x ∈ r) : l.length ≤ r.length := by
  induction l generalizing r with
  | nil => simp
  | cons a l ih =>
    simp only [List.nodup_cons] at hn
    have ha := hs a (by simp)
    have := ih (r := r.erase a) hn.2 (fun x hx => by
      have hne : x ≠ a := fun h => hn.1 (h ▸ hx)
      exact (List.mem_erase_of_ne hne).2 (hs x (List.mem_cons_of_mem _ hx)))
    have h2 := List.length_erase_of_mem ha
    have h3 := List.length_pos_of_mem ha
    simp only [List.length_cons]; omega
def idR (l : List Ident) : List (List D) := l.map idD
@[go_sem] theorem idR_len (l : List Ident) : (idR l).length = l.length := by simp [idR]
@[go_sem] theorem idR_take (l : List Ident) (n : Nat) : (idR l).take n = idR (l.take n) := by simp [idR, List.map_take]
@[go_sem] theorem idR_drop (l : List Ident) (n : Nat) : (idR l).drop n = idR (l.drop n) := by simp [idR, List.map_drop]
@[go_sem] theorem idR_app (l r : List Ident) : idR l ++ idR r = idR (l ++ r) := by simp [idR]
@[go_sem] theorem idR_app1 (l : List Ident) (a b : Int) : idR l ++ [[i64 a, i64 b]] = idR (l ++ [(a, b)]) := by simp [idR, idD]
@[go_sem] theorem idR_get (l : List Ident) (n : Nat) : (idR l)[n]? = (l[n]?).map idD := by simp [idR]

theorem id_dummy : True := trivial
abbrev IdLt (a b : Ident) : Prop := befS a b = true
theorem befS_iff {a b : Ident} : befS a b = true ↔ a.1 < b.1 ∨ a.1 = b.1 ∧ a.2 < b.2 := by simp [befS]
theorem id_irr (a : Ident) : ¬ IdLt a a := by simp [IdLt, befS]
theorem id_trans {a b c : Ident} (h : IdLt a b) (k : IdLt b c) : IdLt a c := befS_iff.2 (by have h1 := befS_iff.1 h; have h2 := befS_iff.1 k; omega)
theorem id_tri {a b : Ident} (h : ¬ IdLt a b) (k : ¬ IdLt b a) : a = b := by
  have h1 := (not_congr befS_iff).1 h; have h2 := (not_congr befS_iff).1 k
  have h3 : a.1 = b.1 ∧ a.2 = b.2 := by omega
  exact Prod.ext h3.1 h3.2
/-- One of the first n events is of this identity, and another event that is no copy of it. -/
def DisAt (l : List St) (c : List Int) (n : Nat) (id : Ident) : Prop := ∃ i k, i < n ∧ k < l.length ∧ valS (stAt l i) = true ∧ valS (stAt l k) = true ∧ idS (stAt l i) = id ∧ dispS (stAt l i) (stAt l k) (inAt c i) (inAt c k) = true
def IsDis (l : List St) (c : List Int) (n : Nat) (o : List Ident) : Prop := o.Pairwise IdLt ∧ ∀ id, id ∈ o ↔ DisAt l c n id
theorem dis_unique {l : List St} {c : List Int} {n : Nat} {a b : List Ident} (ha : IsDis l c n a) (hb : IsDis l c n b) : a = b :=
  asc_unique (lt := IdLt) id_irr (fun a b c h k => id_trans h k) a b ha.1 hb.1 fun x => by rw [ha.2, hb.2]
open Classical in
noncomputable def disF (l : List St) (c : List Int) : List Ident := if h : ∃ o, IsDis l c l.length o then Classical.choose h else []
theorem disF_of {l : List St} {c : List Int} {o : List Ident} (h : IsDis l c l.length o) : o = disF l c := by
  have : ∃ o, IsDis l c l.length o := ⟨o, h⟩
  unfold disF
  rw [dif_pos this]
  exact dis_unique h (Classical.choose_spec this)
noncomputable def disR (l : List St) (c : List Int) : List Ident × Int := if c.length ≠ l.length then ([], 1) else (disF l c, 0)
noncomputable def disC : Con where
  α := List St × List Int
  kinds := [false, false]
  args := fun a => [.d (.sl 3 (stR a.1)), .d (.sl 1 (intL a.2))]
  pre := fun a => a.1.length ≤ 1000000
  post := fun a r => r = ⟨[.own 2 (idR (disR a.1 a.2).1), .d (i64 (disR a.1 a.2).2)], []⟩ ∧ (a.2.length = a.1.length → IsDis a.1 a.2 a.1.length (disR a.1 a.2).1)
  clean := true
theorem plain_idR (o : List Ident) : plainRD (.own 2 (idR o)) = true := by
  simp only [plainRD, idR, List.all_map, List.all_eq_true]
  intro p hp
  rfl

theorem dispS_id {s t : St} {x y : Int} (h : dispS s t x y = true) : idS t = idS s ∧ ¬ (t = s ∧ y = x) := by
  obtain ⟨a, b, c⟩ := s; obtain ⟨d, e, f⟩ := t
  simp only [dispS, Bool.and_eq_true, beq_iff_eq, Bool.or_eq_true, bne_iff_ne] at h
  refine ⟨by simp [idS, h.1.1, h.1.2], ?_⟩
  rintro ⟨h1, h2⟩
  cases h1
  rcases h.2 with h | h
  · exact h rfl
  · exact h h2.symm
theorem dispS_of {s t : St} {x y : Int} (hi : idS t = idS s) (h : ¬ (t = s ∧ y = x)) : dispS s t x y = true := by
  cases hh : dispS s t x y with
  | true => rfl
  | false => exact absurd (dispS_false hh hi) h
def disps (m : List (Ident × Seen)) : List Ident := (m.filter fun p => p.2.2).map Prod.fst
theorem disps_mem {m : List (Ident × Seen)} {id : Ident} : id ∈ disps m ↔ ∃ f, (id, (f, true)) ∈ m := by
  simp only [disps, List.mem_map, List.mem_filter]
  constructor
  · rintro ⟨⟨id, f, d⟩, ⟨h1, h2⟩, rfl⟩
    simp only at h2
    subst h2; exact ⟨f, h1⟩
  · rintro ⟨f, h⟩
    exact ⟨_, ⟨h, rfl⟩, rfl⟩
theorem disps_is {l : List St} {c : List Int} {m : List (Ident × Seen)} (h : IdInv l c l.length m) (id : Ident) : id ∈ disps m ↔ DisAt l c l.length id := by
  rw [disps_mem]
  constructor
  · rintro ⟨f, hm⟩
    obtain ⟨h1, h2, h3, h4, h5⟩ := h.ent id f true hm
    obtain ⟨k, k1, k2, k3, k4⟩ := h5.1 rfl
    refine ⟨f, k, h1, k1, h2, k2, h3, dispS_of (k3.trans h3.symm) fun ⟨e1, e2⟩ => ?_⟩
    rcases k4 with k4 | k4
    · exact k4 e1
    · exact k4 e2
  · rintro ⟨i, k, h1, h2, h3, h4, rfl, h6⟩
    obtain ⟨⟨f, d⟩, hm⟩ := h.all i h1 h3
    obtain ⟨e1, e2, e3, e4, e5⟩ := h.ent _ f d hm
    obtain ⟨h7, h8⟩ := dispS_id h6
    have : d = true := by
      refine e5.2 ?_
      by_cases he : stAt l i = stAt l f ∧ inAt c i = inAt c f
      · refine ⟨k, h2, h4, h7, ?_⟩
        rw [← he.1, ← he.2]
        by_cases hs : stAt l k = stAt l i
        · exact .inr fun hc => h8 ⟨hs, hc⟩
        · exact .inl hs
      · refine ⟨i, h1, h3, rfl, ?_⟩
        by_cases hs : stAt l i = stAt l f
        · exact .inr fun hc => he ⟨hs, hc⟩
        · exact .inl hs
    subst this
    exact ⟨f, hm⟩
theorem disps_nodup {l : List St} {c : List Int} {n : Nat} {m : List (Ident × Seen)} (h : IdInv l c n m) : (disps m).Nodup := by
  have := h.keys
  exact List.Nodup.sublist (List.Sublist.map _ List.filter_sublist) this
theorem disps_perm {m m' : List (Ident × Seen)} (h : m.Perm m') : (disps m).Perm (disps m') := (h.filter _).map _
theorem disps_app (m m' : List (Ident × Seen)) : disps (m ++ m') = disps m ++ disps m' := by simp [disps]

/-- No more identities than events. -/
theorem idents_len {l : List St} {c : List Int} {n : Nat} {m : List (Ident × Seen)} (h : IdInv l c n m) : m.length ≤ n := by
  have hn : (m.map fun p => p.2.1).Nodup := by
    have key : ∀ m' : List (Ident × Seen), (∀ p, p ∈ m' → p ∈ m) → (m'.map Prod.fst).Nodup → (m'.map fun p => p.2.1).Nodup := by
      intro m' hs hn
      induction m' with
      | nil => simp
      | cons p m' ih =>
        simp only [List.map_cons, List.nodup_cons] at hn ⊢
        refine ⟨fun hm => ?_, ih (fun q hq => hs q (List.mem_cons_of_mem _ hq)) hn.2⟩
        obtain ⟨⟨id2, f2, d2⟩, h2, he⟩ := List.mem_map.1 hm
        obtain ⟨id, f, d⟩ := p
        simp only at he; subst he
        have a := (h.ent id f2 d (hs _ (by simp))).2.2.1
        have b := (h.ent id2 f2 d2 (hs _ (List.mem_cons_of_mem _ h2))).2.2.1
        rw [← a, b] at hn
        exact hn.1 (List.mem_map.2 ⟨_, h2, rfl⟩)
    exact key m (fun _ h => h) h.keys
  have hs : ∀ x, x ∈ (m.map fun p => p.2.1) → x ∈ List.range n := by
    intro x hx
    obtain ⟨⟨id, f, d⟩, h2, rfl⟩ := List.mem_map.1 hx
    exact List.mem_range.2 (h.ent id f d h2).1
  have := nodup_sub_len hn hs
  simpa using this
def cmpI (a b : Ident) : Int := firstNZ [ordI a.1 b.1, ordI a.2 b.2]
theorem cmpI_lt {a b : Ident} : cmpI a b < 0 ↔ IdLt a b := by
  rw [IdLt, befS_iff]
  have h1 := @ordI_lt a.1 b.1; have h2 := @ordI_eq a.1 b.1; have h3 := @ordI_lt a.2 b.2; have h4 := @ordI_eq a.2 b.2
  simp only [cmpI, firstNZ]
  split
  · omega
  · split <;> omega
def decI : List D → Ident
  | [.v (.int _ a), .v (.int _ b)] => (a, b)
  | _ => (0, 0)

theorem disP_ok : CallOk Try.prog 30 disC := by
  refine ok_of_body_own 32 2 Try.func30 rfl (by decide) Try.ntmps30 (by intro a h; exact ⟨rfl, rfl⟩) (by decide) (by rintro _ a r _ ⟨rfl, _⟩; simp only [List.all_cons, List.all_nil, plain_idR]; rfl) ?_
  rintro ⟨l, c⟩ h1
  simp only [disC] at h1 ⊢
  simp only [initE, initMm, List.length_cons, List.length_nil, Nat.reduceAdd]
  have hK : KOk Try.prog (kOf [(37, identsC), (42, srtC 2 true), (43, byIdC)]) := kOk_cons idents_ok (kOk_sort sortok42 (kOk_cons byId_ok kOk_nil))
  by_cases hl : c.length = l.length
  case neg =>
    have hc : ((c.length : Int) != (l.length : Int)) = true := by simp; omega
    repeat' (first
    | (with_reducible refine aw_seq ?_)
    | (with_reducible refine kont_in ?_; simp only [go_sem, reduceIte, Nat.reduceLT, Nat.reduceEqDiff, Nat.reduceAdd, Nat.reduceMul, Nat.reduceSub, Nat.reduceLeDiff, reduceCtorEq, hc])
    | (with_reducible refine dKont_in ?_; simp only [go_sem, reduceIte, Nat.reduceLT, Nat.reduceEqDiff, Nat.reduceAdd, Nat.reduceMul, Nat.reduceSub, Nat.reduceLeDiff, reduceCtorEq, hc])
    | (with_reducible refine aw_drw (by kernel_rfl) hK kDet_nil ?_; simp only [go_sem, reduceIte, Nat.reduceLT, Nat.reduceEqDiff, Nat.reduceAdd, Nat.reduceMul, Nat.reduceSub, Nat.reduceLeDiff, reduceCtorEq, hc])
    | (with_reducible refine aw_reg hK ?_; simp only [go_sem, reduceIte, Nat.reduceLT, Nat.reduceEqDiff, Nat.reduceAdd, Nat.reduceMul, Nat.reduceSub, Nat.reduceLeDiff, reduceCtorEq, hc])
    | (with_reducible refine aw_if ?_; simp only [go_sem, reduceIte, Nat.reduceLT, Nat.reduceEqDiff, Nat.reduceAdd, Nat.reduceMul, Nat.reduceSub, Nat.reduceLeDiff, reduceCtorEq, hc])
    | (with_reducible refine aw_block ?_)
    | (with_reducible refine aw_ret ?_; (try simp only [thenQ, blockQ]); refine aw_ret' ?_; simp only [go_sem, reduceIte, Nat.reduceLT, Nat.reduceEqDiff, Nat.reduceAdd, Nat.reduceMul, Nat.reduceSub, Nat.reduceLeDiff, reduceCtorEq, hc])
    | (with_reducible refine aw_exit ?_; simp only [thenQ, blockQ, reduceIte, Nat.reduceEqDiff])
    | (with_reducible refine aw_skip ?_; simp only [thenQ, blockQ])
    | (with_reducible refine gate_intro (fun h => ?_) (fun h => ?_) <;> simp only [h, go_sem, reduceIte, Nat.reduceLT, Nat.reduceEqDiff, Nat.reduceAdd, Nat.reduceMul, Nat.reduceSub, Nat.reduceLeDiff, reduceCtorEq, hc] <;> (try simp only [decide_eq_true_eq, decide_eq_false_iff_not, Bool.not_true] at h))
    | (with_reducible refine chk_in (by kernel_rfl) ?_)
    | (with_reducible refine And.intro (And.intro (by omega) (by omega)) ?_)
    | (with_reducible refine And.intro (by omega) ?_)
    | (rw [get_in]; rotate_left; omega; simp only [go_sem, reduceIte, Nat.reduceLT, Nat.reduceEqDiff, Nat.reduceAdd, Nat.reduceMul, Nat.reduceSub, Nat.reduceLeDiff, reduceCtorEq, hc])
    | fail)
    refine ⟨_, ⟨rfl, fun h => absurd h hl⟩, ?_, rfl⟩
    simp only [disR, ne_eq, hl, not_false_eq_true, if_true]
    exact .z _ _ _ (.refl _)
  have hc : ((c.length : Int) != (l.length : Int)) = false := by simp; omega
  repeat' (first
    | (with_reducible refine aw_seq ?_)
    | (with_reducible refine kont_in ?_; simp only [go_sem, reduceIte, Nat.reduceLT, Nat.reduceEqDiff, Nat.reduceAdd, Nat.reduceMul, Nat.reduceSub, Nat.reduceLeDiff, reduceCtorEq, hc])
    | (with_reducible refine dKont_in ?_; simp only [go_sem, reduceIte, Nat.reduceLT, Nat.reduceEqDiff, Nat.reduceAdd, Nat.reduceMul, Nat.reduceSub, Nat.reduceLeDiff, reduceCtorEq, hc])
    | (with_reducible refine aw_drw (by kernel_rfl) hK kDet_nil ?_; simp only [go_sem, reduceIte, Nat.reduceLT, Nat.reduceEqDiff, Nat.reduceAdd, Nat.reduceMul, Nat.reduceSub, Nat.reduceLeDiff, reduceCtorEq, hc])
    | (with_reducible refine aw_reg hK ?_; simp only [go_sem, reduceIte, Nat.reduceLT, Nat.reduceEqDiff, Nat.reduceAdd, Nat.reduceMul, Nat.reduceSub, Nat.reduceLeDiff, reduceCtorEq, hc])
    | (with_reducible refine aw_if ?_; simp only [go_sem, reduceIte, Nat.reduceLT, Nat.reduceEqDiff, Nat.reduceAdd, Nat.reduceMul, Nat.reduceSub, Nat.reduceLeDiff, reduceCtorEq, hc])
    | (with_reducible refine aw_block ?_)
    | (with_reducible refine aw_ret ?_; (try simp only [thenQ, blockQ]); refine aw_ret' ?_; simp only [go_sem, reduceIte, Nat.reduceLT, Nat.reduceEqDiff, Nat.reduceAdd, Nat.reduceMul, Nat.reduceSub, Nat.reduceLeDiff, reduceCtorEq, hc])
    | (with_reducible refine aw_exit ?_; simp only [thenQ, blockQ, reduceIte, Nat.reduceEqDiff])
    | (with_reducible refine aw_skip ?_; simp only [thenQ, blockQ])
    | (with_reducible refine gate_intro (fun h => ?_) (fun h => ?_) <;> simp only [h, go_sem, reduceIte, Nat.reduceLT, Nat.reduceEqDiff, Nat.reduceAdd, Nat.reduceMul, Nat.reduceSub, Nat.reduceLeDiff, reduceCtorEq, hc] <;> (try simp only [decide_eq_true_eq, decide_eq_false_iff_not, Bool.not_true] at h))
    | (with_reducible refine chk_in (by kernel_rfl) ?_)
    | (with_reducible refine And.intro (And.intro (by omega) (by omega)) ?_)
    | (with_reducible refine And.intro (by omega) ?_)
    | (refine idents_call rfl l c rfl rfl ⟨hl, h1⟩ (memOf_free rfl) (fun m hm => ?_))
    | (rw [get_in]; rotate_left; omega; simp only [go_sem, reduceIte, Nat.reduceLT, Nat.reduceEqDiff, Nat.reduceAdd, Nat.reduceMul, Nat.reduceSub, Nat.reduceLeDiff, reduceCtorEq, hc])
    | fail)
  refine aw_nil 6 100 2 rfl rfl ?_
  refine aw_rounds (α := List (Ident × Seen) × List (Ident × Seen) × Option (D × D)) (fun x => ⟨envOf [(0, .sl 3 (stR l)), (1, .sl 1 (intL c)), (4, .nils), (5, i64 0), (6, .row 100), (17, .it 101)], memOf [(100, .row 2 (idR (disps x.1)) true), (101, .iter (idM x.2.1) x.2.2)], 200⟩)
    (fun x => (x.1 ++ x.2.1).Perm m) (fun x => x.2.1.length) ([], m, none) (.refl _) (weak_in [(100, 100), (101, _)] (by repeat' (first | trivial | constructor | rfl)) (by repeat' (first | trivial | constructor | rfl)) (by rfl) (by rfl) (by rfl)) ?_
  rintro ⟨done, rem, last⟩ hp
  simp only at hp ⊢
  have hml : m.length ≤ 1000000 := by
    have hsub : (m.map Prod.fst).Nodup := hm.keys
    have := idents_len hm
    omega
  have hfl : (disps done).length ≤ 1000000 := by
    have e1 := (disps_perm hp).length_eq
    rw [disps_app, List.length_append] at e1
    have : (disps m).length ≤ m.length := by simp only [disps, List.length_map]; exact List.length_filter_le _ _
    omega
  repeat' (first
    | (with_reducible refine aw_seq ?_)
    | (with_reducible refine kont_in ?_; simp only [go_sem, reduceIte, Nat.reduceLT, Nat.reduceEqDiff, Nat.reduceAdd, Nat.reduceMul, Nat.reduceSub, Nat.reduceLeDiff, reduceCtorEq])
    | (with_reducible refine dKont_in ?_; simp only [go_sem, reduceIte, Nat.reduceLT, Nat.reduceEqDiff, Nat.reduceAdd, Nat.reduceMul, Nat.reduceSub, Nat.reduceLeDiff, reduceCtorEq])
    | (with_reducible refine aw_drw (by kernel_rfl) hK kDet_nil ?_; simp only [go_sem, reduceIte, Nat.reduceLT, Nat.reduceEqDiff, Nat.reduceAdd, Nat.reduceMul, Nat.reduceSub, Nat.reduceLeDiff, reduceCtorEq])
    | (with_reducible refine aw_reg hK ?_; simp only [go_sem, reduceIte, Nat.reduceLT, Nat.reduceEqDiff, Nat.reduceAdd, Nat.reduceMul, Nat.reduceSub, Nat.reduceLeDiff, reduceCtorEq])
    | (with_reducible refine aw_if ?_; simp only [go_sem, reduceIte, Nat.reduceLT, Nat.reduceEqDiff, Nat.reduceAdd, Nat.reduceMul, Nat.reduceSub, Nat.reduceLeDiff, reduceCtorEq])
    | (with_reducible refine aw_block ?_)
    | (with_reducible refine aw_ret ?_; (try simp only [thenQ, blockQ]); refine aw_ret' ?_; simp only [go_sem, reduceIte, Nat.reduceLT, Nat.reduceEqDiff, Nat.reduceAdd, Nat.reduceMul, Nat.reduceSub, Nat.reduceLeDiff, reduceCtorEq])
    | (with_reducible refine aw_exit ?_; simp only [thenQ, blockQ, reduceIte, Nat.reduceEqDiff])
    | (with_reducible refine aw_skip ?_; simp only [thenQ, blockQ])
    | (with_reducible refine gate_intro (fun h => ?_) (fun h => ?_) <;> simp only [h, go_sem, reduceIte, Nat.reduceLT, Nat.reduceEqDiff, Nat.reduceAdd, Nat.reduceMul, Nat.reduceSub, Nat.reduceLeDiff, reduceCtorEq] <;> (try simp only [decide_eq_true_eq, decide_eq_false_iff_not, Bool.not_true] at h))
    | (with_reducible refine chk_in (by kernel_rfl) ?_)
    | (with_reducible refine And.intro (And.intro (by omega) (by omega)) ?_)
    | (with_reducible refine And.intro (by omega) ?_)
    | (rw [get_in]; rotate_left; omega; simp only [go_sem, reduceIte, Nat.reduceLT, Nat.reduceEqDiff, Nat.reduceAdd, Nat.reduceMul, Nat.reduceSub, Nat.reduceLeDiff, reduceCtorEq])
    | fail)
  refine ⟨fun h => ?_, fun j k v hj => ?_⟩
  · repeat' (first
    | (with_reducible refine aw_seq ?_)
    | (with_reducible refine kont_in ?_; simp only [go_sem, reduceIte, Nat.reduceLT, Nat.reduceEqDiff, Nat.reduceAdd, Nat.reduceMul, Nat.reduceSub, Nat.reduceLeDiff, reduceCtorEq])
    | (with_reducible refine dKont_in ?_; simp only [go_sem, reduceIte, Nat.reduceLT, Nat.reduceEqDiff, Nat.reduceAdd, Nat.reduceMul, Nat.reduceSub, Nat.reduceLeDiff, reduceCtorEq])
    | (with_reducible refine aw_drw (by kernel_rfl) hK kDet_nil ?_; simp only [go_sem, reduceIte, Nat.reduceLT, Nat.reduceEqDiff, Nat.reduceAdd, Nat.reduceMul, Nat.reduceSub, Nat.reduceLeDiff, reduceCtorEq])
    | (with_reducible refine aw_reg hK ?_; simp only [go_sem, reduceIte, Nat.reduceLT, Nat.reduceEqDiff, Nat.reduceAdd, Nat.reduceMul, Nat.reduceSub, Nat.reduceLeDiff, reduceCtorEq])
    | (with_reducible refine aw_if ?_; simp only [go_sem, reduceIte, Nat.reduceLT, Nat.reduceEqDiff, Nat.reduceAdd, Nat.reduceMul, Nat.reduceSub, Nat.reduceLeDiff, reduceCtorEq])
    | (with_reducible refine aw_block ?_)
    | (with_reducible refine aw_ret ?_; (try simp only [thenQ, blockQ]); refine aw_ret' ?_; simp only [go_sem, reduceIte, Nat.reduceLT, Nat.reduceEqDiff, Nat.reduceAdd, Nat.reduceMul, Nat.reduceSub, Nat.reduceLeDiff, reduceCtorEq])
    | (with_reducible refine aw_exit ?_; simp only [thenQ, blockQ, reduceIte, Nat.reduceEqDiff])
    | (with_reducible refine aw_skip ?_; simp only [thenQ, blockQ])
    | (with_reducible refine gate_intro (fun h => ?_) (fun h => ?_) <;> simp only [h, go_sem, reduceIte, Nat.reduceLT, Nat.reduceEqDiff, Nat.reduceAdd, Nat.reduceMul, Nat.reduceSub, Nat.reduceLeDiff, reduceCtorEq] <;> (try simp only [decide_eq_true_eq, decide_eq_false_iff_not, Bool.not_true] at h))
    | (with_reducible refine chk_in (by kernel_rfl) ?_)
    | (with_reducible refine And.intro (And.intro (by omega) (by omega)) ?_)
    | (with_reducible refine And.intro (by omega) ?_)
    | (rw [get_in]; rotate_left; omega; simp only [go_sem, reduceIte, Nat.reduceLT, Nat.reduceEqDiff, Nat.reduceAdd, Nat.reduceMul, Nat.reduceSub, Nat.reduceLeDiff, reduceCtorEq])
    | fail)
    have he : rem = [] := by
      simpa [idM, mapE] using h
    subst he
    rw [List.append_nil] at hp
    refine sort_call idD decI (fun a => by simp [decI, idD]) (disps done) cmpI rfl rfl rfl rfl rfl (by decide) (by omega) (fun x _ => by rw [cmpI_lt]; exact id_irr _) (fun x y z _ _ _ h k => by rw [cmpI_lt] at *; exact id_trans h k)
      (fun x y z _ _ _ h k => fun hl => by have h1 := (not_congr (cmpI_lt.trans befS_iff)).1 h; have h2 := (not_congr (cmpI_lt.trans befS_iff)).1 k; have h3 := befS_iff.1 (cmpI_lt.1 hl); omega)
      (fun x y hx hy => ⟨(x, y), rfl, trivial, fun r hr => hr⟩) (fun o ho hs => ?_)
    have hperm := ho.trans (disps_perm hp)
    have hdis : IsDis l c l.length o := by
      refine ⟨?_, fun id => by rw [hperm.mem_iff, disps_is hm]⟩
      refine List.Pairwise.imp_of_mem ?_ (List.Pairwise.and hs (hperm.nodup_iff.2 (disps_nodup hm)))
      intro a b ha hb ⟨h1, h2⟩
      rw [cmpI_lt] at h1
      rcases Classical.em (IdLt a b) with h | h
      · exact h
      · exact absurd (id_tri h h1) h2
    have := disF_of hdis
    subst this
    simp only [upd_memOf]
    repeat' (first
    | (with_reducible refine aw_seq ?_)
    | (with_reducible refine kont_in ?_; simp only [go_sem, reduceIte, Nat.reduceLT, Nat.reduceEqDiff, Nat.reduceAdd, Nat.reduceMul, Nat.reduceSub, Nat.reduceLeDiff, reduceCtorEq])
    | (with_reducible refine dKont_in ?_; simp only [go_sem, reduceIte, Nat.reduceLT, Nat.reduceEqDiff, Nat.reduceAdd, Nat.reduceMul, Nat.reduceSub, Nat.reduceLeDiff, reduceCtorEq])
    | (with_reducible refine aw_drw (by kernel_rfl) hK kDet_nil ?_; simp only [go_sem, reduceIte, Nat.reduceLT, Nat.reduceEqDiff, Nat.reduceAdd, Nat.reduceMul, Nat.reduceSub, Nat.reduceLeDiff, reduceCtorEq])
    | (with_reducible refine aw_reg hK ?_; simp only [go_sem, reduceIte, Nat.reduceLT, Nat.reduceEqDiff, Nat.reduceAdd, Nat.reduceMul, Nat.reduceSub, Nat.reduceLeDiff, reduceCtorEq])
    | (with_reducible refine aw_if ?_; simp only [go_sem, reduceIte, Nat.reduceLT, Nat.reduceEqDiff, Nat.reduceAdd, Nat.reduceMul, Nat.reduceSub, Nat.reduceLeDiff, reduceCtorEq])
    | (with_reducible refine aw_block ?_)
    | (with_reducible refine aw_ret ?_; (try simp only [thenQ, blockQ]); refine aw_ret' ?_; simp only [go_sem, reduceIte, Nat.reduceLT, Nat.reduceEqDiff, Nat.reduceAdd, Nat.reduceMul, Nat.reduceSub, Nat.reduceLeDiff, reduceCtorEq])
    | (with_reducible refine aw_exit ?_; simp only [thenQ, blockQ, reduceIte, Nat.reduceEqDiff])
    | (with_reducible refine aw_skip ?_; simp only [thenQ, blockQ])
    | (with_reducible refine gate_intro (fun h => ?_) (fun h => ?_) <;> simp only [h, go_sem, reduceIte, Nat.reduceLT, Nat.reduceEqDiff, Nat.reduceAdd, Nat.reduceMul, Nat.reduceSub, Nat.reduceLeDiff, reduceCtorEq] <;> (try simp only [decide_eq_true_eq, decide_eq_false_iff_not, Bool.not_true] at h))
    | (with_reducible refine chk_in (by kernel_rfl) ?_)
    | (with_reducible refine And.intro (And.intro (by omega) (by omega)) ?_)
    | (with_reducible refine And.intro (by omega) ?_)
    | (rw [get_in]; rotate_left; omega; simp only [go_sem, reduceIte, Nat.reduceLT, Nat.reduceEqDiff, Nat.reduceAdd, Nat.reduceMul, Nat.reduceSub, Nat.reduceLeDiff, reduceCtorEq])
    | fail)
    have e : disR l c = (disF l c, 0) := by simp only [disR, ne_eq, hl, not_true_eq_false, if_false]
    refine ⟨_, ⟨rfl, fun _ => by rw [e]; exact hdis⟩, ?_, rfl⟩
    rw [e]
    exact .refl _
  · obtain ⟨⟨⟨a, b⟩, f, d⟩, hr, rfl, rfl⟩ := idM_get hj
    have hperm : ((done ++ [((a, b), (f, d))]) ++ rem.eraseIdx j).Perm m := by
      refine List.Perm.trans ?_ hp
      rw [List.append_assoc]
      exact (erase_perm hr).append_left done
    have hlen : (rem.eraseIdx j).length < rem.length := by
      have := (erase_perm hr).length_eq
      simp at this; omega
    cases d with
    | false =>
      repeat' (first
    | (with_reducible refine aw_seq ?_)
    | (with_reducible refine kont_in ?_; simp only [go_sem, reduceIte, Nat.reduceLT, Nat.reduceEqDiff, Nat.reduceAdd, Nat.reduceMul, Nat.reduceSub, Nat.reduceLeDiff, reduceCtorEq, seenD, idM_erase, idD])
    | (with_reducible refine dKont_in ?_; simp only [go_sem, reduceIte, Nat.reduceLT, Nat.reduceEqDiff, Nat.reduceAdd, Nat.reduceMul, Nat.reduceSub, Nat.reduceLeDiff, reduceCtorEq, seenD, idM_erase, idD])
    | (with_reducible refine aw_drw (by kernel_rfl) hK kDet_nil ?_; simp only [go_sem, reduceIte, Nat.reduceLT, Nat.reduceEqDiff, Nat.reduceAdd, Nat.reduceMul, Nat.reduceSub, Nat.reduceLeDiff, reduceCtorEq, seenD, idM_erase, idD])
    | (with_reducible refine aw_reg hK ?_; simp only [go_sem, reduceIte, Nat.reduceLT, Nat.reduceEqDiff, Nat.reduceAdd, Nat.reduceMul, Nat.reduceSub, Nat.reduceLeDiff, reduceCtorEq, seenD, idM_erase, idD])
    | (with_reducible refine aw_if ?_; simp only [go_sem, reduceIte, Nat.reduceLT, Nat.reduceEqDiff, Nat.reduceAdd, Nat.reduceMul, Nat.reduceSub, Nat.reduceLeDiff, reduceCtorEq, seenD, idM_erase, idD])
    | (with_reducible refine aw_block ?_)
    | (with_reducible refine aw_ret ?_; (try simp only [thenQ, blockQ]); refine aw_ret' ?_; simp only [go_sem, reduceIte, Nat.reduceLT, Nat.reduceEqDiff, Nat.reduceAdd, Nat.reduceMul, Nat.reduceSub, Nat.reduceLeDiff, reduceCtorEq, seenD, idM_erase, idD])
    | (with_reducible refine aw_exit ?_; simp only [thenQ, blockQ, reduceIte, Nat.reduceEqDiff])
    | (with_reducible refine aw_skip ?_; simp only [thenQ, blockQ])
    | (with_reducible refine gate_intro (fun h => ?_) (fun h => ?_) <;> simp only [h, go_sem, reduceIte, Nat.reduceLT, Nat.reduceEqDiff, Nat.reduceAdd, Nat.reduceMul, Nat.reduceSub, Nat.reduceLeDiff, reduceCtorEq, seenD, idM_erase, idD] <;> (try simp only [decide_eq_true_eq, decide_eq_false_iff_not, Bool.not_true] at h))
    | (with_reducible refine chk_in (by kernel_rfl) ?_)
    | (with_reducible refine And.intro (And.intro (by omega) (by omega)) ?_)
    | (with_reducible refine And.intro (by omega) ?_)
    | (rw [get_in]; rotate_left; omega; simp only [go_sem, reduceIte, Nat.reduceLT, Nat.reduceEqDiff, Nat.reduceAdd, Nat.reduceMul, Nat.reduceSub, Nat.reduceLeDiff, reduceCtorEq, seenD, idM_erase, idD])
    | fail)
      have e : disps (done ++ [((a, b), (f, false))]) = disps done := by simp [disps]
      refine ⟨(done ++ [((a, b), (f, false))], rem.eraseIdx j, some (.agg [i64 a, i64 b], .agg [i64 f, bl false])), ?_, hperm, hlen⟩
      simp only [e]
      exact weak_in [(100, 100), (101, _)] (by repeat' (first | trivial | constructor | rfl)) (by repeat' (first | trivial | constructor | rfl)) (by rfl) (by rfl) (by rfl)
    | true =>
      repeat' (first
    | (with_reducible refine aw_seq ?_)
    | (with_reducible refine kont_in ?_; simp only [go_sem, reduceIte, Nat.reduceLT, Nat.reduceEqDiff, Nat.reduceAdd, Nat.reduceMul, Nat.reduceSub, Nat.reduceLeDiff, reduceCtorEq, seenD, idM_erase, idD])
    | (with_reducible refine dKont_in ?_; simp only [go_sem, reduceIte, Nat.reduceLT, Nat.reduceEqDiff, Nat.reduceAdd, Nat.reduceMul, Nat.reduceSub, Nat.reduceLeDiff, reduceCtorEq, seenD, idM_erase, idD])
    | (with_reducible refine aw_drw (by kernel_rfl) hK kDet_nil ?_; simp only [go_sem, reduceIte, Nat.reduceLT, Nat.reduceEqDiff, Nat.reduceAdd, Nat.reduceMul, Nat.reduceSub, Nat.reduceLeDiff, reduceCtorEq, seenD, idM_erase, idD])
    | (with_reducible refine aw_reg hK ?_; simp only [go_sem, reduceIte, Nat.reduceLT, Nat.reduceEqDiff, Nat.reduceAdd, Nat.reduceMul, Nat.reduceSub, Nat.reduceLeDiff, reduceCtorEq, seenD, idM_erase, idD])
    | (with_reducible refine aw_if ?_; simp only [go_sem, reduceIte, Nat.reduceLT, Nat.reduceEqDiff, Nat.reduceAdd, Nat.reduceMul, Nat.reduceSub, Nat.reduceLeDiff, reduceCtorEq, seenD, idM_erase, idD])
    | (with_reducible refine aw_block ?_)
    | (with_reducible refine aw_ret ?_; (try simp only [thenQ, blockQ]); refine aw_ret' ?_; simp only [go_sem, reduceIte, Nat.reduceLT, Nat.reduceEqDiff, Nat.reduceAdd, Nat.reduceMul, Nat.reduceSub, Nat.reduceLeDiff, reduceCtorEq, seenD, idM_erase, idD])
    | (with_reducible refine aw_exit ?_; simp only [thenQ, blockQ, reduceIte, Nat.reduceEqDiff])
    | (with_reducible refine aw_skip ?_; simp only [thenQ, blockQ])
    | (with_reducible refine gate_intro (fun h => ?_) (fun h => ?_) <;> simp only [h, go_sem, reduceIte, Nat.reduceLT, Nat.reduceEqDiff, Nat.reduceAdd, Nat.reduceMul, Nat.reduceSub, Nat.reduceLeDiff, reduceCtorEq, seenD, idM_erase, idD] <;> (try simp only [decide_eq_true_eq, decide_eq_false_iff_not, Bool.not_true] at h))
    | (with_reducible refine chk_in (by kernel_rfl) ?_)
    | (with_reducible refine And.intro (And.intro (by omega) (by omega)) ?_)
    | (with_reducible refine And.intro (by omega) ?_)
    | (rw [get_in]; rotate_left; omega; simp only [go_sem, reduceIte, Nat.reduceLT, Nat.reduceEqDiff, Nat.reduceAdd, Nat.reduceMul, Nat.reduceSub, Nat.reduceLeDiff, reduceCtorEq, seenD, idM_erase, idD])
    | fail)
      have e : disps (done ++ [((a, b), (f, true))]) = disps done ++ [(a, b)] := by simp [disps]
      refine ⟨(done ++ [((a, b), (f, true))], rem.eraseIdx j, some (.agg [i64 a, i64 b], .agg [i64 f, bl true])), ?_, hperm, hlen⟩
      simp only [e]
      exact weak_in [(100, _), (101, _)] (by repeat' (first | trivial | constructor | rfl)) (by repeat' (first | trivial | constructor | rfl)) (by rfl) (by rfl) (by rfl)
end Go.Proofs.R1
