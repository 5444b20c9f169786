/- The abstract machine, thirteenth part: states made weaker; a function's body keeps its contract. -/
import Derived.Test.YtgihcmeifafnjaaCAbsL
set_option linter.unusedVariables false
set_option linter.unusedSimpArgs false
namespace Go.Abs
open Go

def envOf : List (Nat × D) → Nat → D
  | [], _ => .junk
  | (k, d) :: l, i => if i = k then d else envOf l i
def memOf : List (Nat × Ent) → Nat → Option Ent
  | [], _ => none
  | (k, e) :: l, i => if i = k then some e else memOf l i

def re0 (old : Nat → Nat) (M : Mem) : D → Option D
  | .v x => some (.v x)
  | .nils => some .nils
  | .sl sz es => some (.sl sz es)
  | .rp sz es i off => some (.rp sz es i off)
  | .fn f [] [] => some (.fn f [] [])
  | .row id => if (M id).isSome then some (.row (old id)) else none
  | .vw id o n => if (M id).isSome then some (.vw (old id) o n) else none
  | .elt id i o => if (M id).isSome then some (.elt (old id) i o) else none
  | .box id o => if (M id).isSome then some (.box (old id) o) else none
  | .mp id => if (M id).isSome then some (.mp (old id)) else none
  | .it id => if (M id).isSome then some (.it (old id)) else none
  | _ => none
def reD (old : Nat → Nat) (M : Mem) : D → Option D
  | .agg cs => (mapO (re0 old M) cs).map .agg
  | .tup ds => (mapO (re0 old M) ds).map .tup
  | .fn f x y => match mapO (re0 old M) x, mapO (re0 old M) y with
    | some x', some y' => some (.fn f x' y')
    | _, _ => none
  | d => re0 old M d
def reE (old : Nat → Nat) (M : Mem) : Ent → Option Ent
  | .cells cs => (mapO (reD old M) cs).map .cells
  | .row sz es ex => some (.row sz es ex)
  | .map kvs ex => some (.map kvs ex)
  | .iter left last => some (.iter left last)
  | _ => none

/-- The ghosts of a state that was made weaker. -/
def reG (old : Nat → Nat) (M : Mem) (g : Nat → Option GI) : Nat → Option GI := fun j => if (M j).isSome then g (old j) else none

theorem re0_ok {old : Nat → Nat} {M : Mem} {g : Nat → Option GI} {A A' : Nat → Prop} {w : World} (hA : ∀ b, A b → A' b) {d d' : D} {u : Value} (h : re0 old M d = some d') (hv : Tc g A w d' u) : Tc (reG old M g) A' w d u := by
  have hr : ∀ {d u}, Rc A w d u → Tc (reG old M g) A' w d u := fun h => .c _ _ (h.mono fun b hb => ⟨hA b hb, rfl⟩)
  unfold re0 at h
  split at h <;> try (simp only [Option.some.injEq, reduceCtorEq] at h)
  · subst h; cases hv with | c _ _ h => exact hr h
  · subst h; cases hv with | c _ _ h => exact hr h
  · subst h; cases hv with | c _ _ h => exact hr h
  · subst h; cases hv with | c _ _ h => exact hr h
  · subst h
    cases hv with
    | c _ _ h => exact hr h
    | fn _ _ _ us vs hl hs _ _ => exact .fn _ [] [] us vs hl hs (by simp) (by simp)
  · split at h
    · rename_i id hm; cases h
      cases hv with
      | c _ _ h => cases h
      | row _ gi a c hg hn hc ha => exact .row id gi a c (by simp [reG, hm, hg]) hn hc ha
    · cases h
  · split at h
    · rename_i id o n hm; cases h
      cases hv with
      | c _ _ h => cases h
      | vw _ _ _ gi a c hg ho hn ha => exact .vw id o n gi a c (by simp [reG, hm, hg]) ho hn ha
    · cases h
  · split at h
    · rename_i id i o hm; cases h
      cases hv with
      | c _ _ h => cases h
      | elt _ _ _ gi hg hi => exact .elt id i o gi (by simp [reG, hm, hg]) hi
    · cases h
  · split at h
    · rename_i id o hm; cases h
      cases hv with
      | c _ _ h => cases h
      | box _ _ gi hg => exact .box id o gi (by simp [reG, hm, hg])
    · cases h
  · split at h
    · rename_i id hm; cases h
      cases hv with
      | c _ _ h => cases h
      | mp _ gi hg => exact .mp id gi (by simp [reG, hm, hg])
    · cases h
  · split at h
    · rename_i id hm; cases h
      cases hv with
      | c _ _ h => cases h
      | it _ gi hg => exact .it id gi (by simp [reG, hm, hg])
    · cases h

theorem mapO_get' {α β : Type} {f : α → Option β} {l : List α} {l' : List β} (h : mapO f l = some l') {i : Nat} {x : α} (hi : l[i]? = some x) : ∃ y, l'[i]? = some y ∧ f x = some y := by
  have hlt : i < l'.length := by
    rw [mapO_length h]
    rcases Nat.lt_or_ge i l.length with h | h
    · exact h
    · simp [List.getElem?_eq_none h] at hi
  obtain ⟨x', h1, h2⟩ := mapO_get h (List.getElem?_eq_getElem hlt)
  rw [hi] at h1; cases h1
  exact ⟨_, List.getElem?_eq_getElem hlt, h2⟩

theorem reD_tc {old : Nat → Nat} {M : Mem} {g : Nat → Option GI} {A A' : Nat → Prop} {w : World} (hA : ∀ b, A b → A' b) {d d' : D} {u : Value} (h : reD old M d = some d') (hv : Tc g A w d' u) : Tc (reG old M g) A' w d u := by
  unfold reD at h
  split at h
  · rename_i cs; obtain ⟨x, _, rfl⟩ := Option.map_eq_some_iff.1 h; cases hv with | c _ _ h => cases h
  · rename_i cs; obtain ⟨x, _, rfl⟩ := Option.map_eq_some_iff.1 h; cases hv with | c _ _ h => cases h
  · rename_i f x y
    split at h
    · rename_i x' y' h1 h2
      cases h
      have glue : ∀ {us vs : Array Value}, vs.size = x'.length → us.size = y'.length → (∀ (i : Nat) d u, x'[i]? = some d → vs[i]? = some u → Tc g A w d u) → (∀ (i : Nat) d u, y'[i]? = some d → us[i]? = some u → Tc g A w d u) →
          Tc (reG old M g) A' w (.fn f x y) (.func (.func f) vs us) := by
        intro us vs p1 p2 p3 p4
        refine .fn f x y us vs (by rw [p1, mapO_length h1]) (by rw [p2, mapO_length h2]) (fun i d u hd hu => ?_) (fun i d u hd hu => ?_)
        · obtain ⟨q, q1, q2⟩ := mapO_get' h1 hd; exact re0_ok hA q2 (p3 i q u q1 hu)
        · obtain ⟨q, q1, q2⟩ := mapO_get' h2 hd; exact re0_ok hA q2 (p4 i q u q1 hu)
      cases hv with
      | c _ _ hr => cases hr with
        | fn _ _ _ us vs hl hs hf hr => exact glue hl hs (fun i d u a b => .c _ _ (hf i d u a b)) (fun i d u a b => .c _ _ (hr i d u a b))
      | fn _ _ _ us vs hl hs hf hr => exact glue hl hs hf hr
    · simp at h
  · exact re0_ok hA h hv

theorem reD_ok {old : Nat → Nat} {M : Mem} {g : Nat → Option GI} {A A' : Nat → Prop} {w : World} (hA : ∀ b, A b → A' b) {d d' : D} {u : Value} (h : reD old M d = some d') (hv : Tv g A w d' u) : Tv (reG old M g) A' w d u := by
  cases hv with
  | c _ _ hc => exact .c _ _ (reD_tc hA h hc)
  | agg cs us hl hr =>
    unfold reD at h
    split at h
    · rename_i cs'
      obtain ⟨x, hx, he⟩ := Option.map_eq_some_iff.1 h
      cases he
      refine .agg _ _ (by rw [hl, mapO_length hx]) fun i d u hd hu => ?_
      obtain ⟨q, q1, q2⟩ := mapO_get' hx hd
      exact re0_ok hA q2 (hr i q u q1 hu)
    · obtain ⟨x, hx, he⟩ := Option.map_eq_some_iff.1 h; cases he
    · split at h <;> simp at h
    · unfold re0 at h; split at h <;> first | (simp at h; done) | (split at h <;> simp at h)
  | tup ds us hl hr =>
    unfold reD at h
    split at h
    · obtain ⟨x, hx, he⟩ := Option.map_eq_some_iff.1 h; cases he
    · rename_i cs'
      obtain ⟨x, hx, he⟩ := Option.map_eq_some_iff.1 h
      cases he
      refine .tup _ _ (by rw [hl, mapO_length hx]) fun i d u hd hu => ?_
      obtain ⟨q, q1, q2⟩ := mapO_get' hx hd
      have hq := hr i q u q1 hu
      cases hq with
      | c _ _ hc => exact .c _ _ (re0_ok hA q2 hc)
      | agg => unfold re0 at q2; split at q2 <;> first | (simp at q2; done) | (split at q2 <;> simp at q2)
      | tup => unfold re0 at q2; split at q2 <;> first | (simp at q2; done) | (split at q2 <;> simp at q2)
      | junk => unfold re0 at q2; split at q2 <;> first | (simp at q2; done) | (split at q2 <;> simp at q2)
    · split at h <;> simp at h
    · unfold re0 at h; split at h <;> first | (simp at h; done) | (split at h <;> simp at h)
  | junk u =>
    unfold reD at h
    split at h
    · obtain ⟨x, hx, he⟩ := Option.map_eq_some_iff.1 h; cases he
    · obtain ⟨x, hx, he⟩ := Option.map_eq_some_iff.1 h; cases he
    · split at h <;> simp at h
    · unfold re0 at h; split at h <;> first | (simp at h; done) | (split at h <;> simp at h)

theorem memOf_mem : ∀ {l : List (Nat × Ent)} {i : Nat} {e : Ent}, memOf l i = some e → (i, e) ∈ l
  | (k, e') :: l, i, e, h => by
    simp only [memOf] at h
    split at h
    · rename_i hk; cases h; subst hk; exact List.mem_cons_self
    · exact List.mem_cons_of_mem _ (memOf_mem h)
theorem envOf_mem : ∀ {l : List (Nat × D)} {i : Nat}, envOf l i = .junk ∨ (i, envOf l i) ∈ l
  | [], _ => .inl rfl
  | (k, d) :: l, i => by
    simp only [envOf]
    split
    · rename_i hk; subst hk; exact .inr List.mem_cons_self
    · rcases envOf_mem (l := l) (i := i) with h | h
      · exact .inl h
      · exact .inr (List.mem_cons_of_mem _ h)

/-- A state with other identities, that forgets the rest. -/
theorem weak_re {n np : Nat} {s : S} (old : Nat → Nat) (el : List (Nat × D)) (ml : List (Nat × Ent)) (nx : Nat)
    (he : ∀ p, p ∈ el → reD old (memOf ml) p.2 = some (s.env p.1)) (hm : ∀ p, p ∈ ml → reE old (memOf ml) p.2 = s.mem (old p.1) ∧ (reE old (memOf ml) p.2).isSome = true ∧ (np ≤ p.1 → np ≤ old p.1))
    (hd : ∀ p q, p ∈ ml → q ∈ ml → old p.1 = old q.1 → p.1 = q.1) (hp : ∀ j, j < np → s.mem j = none ∨ ((memOf ml j).isSome = true ∧ old j = j)) :
    Weak n np s ⟨envOf el, memOf ml, nx⟩ := by
  intro F a w hn hnp hI
  subst hn; subst hnp
  obtain ⟨h1, h2, g, hM, henv⟩ := hI
  -- what an entry was
  have hent : ∀ {j e}, memOf ml j = some e → ∃ e0 gi, s.mem (old j) = some e0 ∧ reE old (memOf ml) e = some e0 ∧ g (old j) = some gi ∧ EntOk g (Ok F g s.mem w) w gi e0 ∧ e0.ex = e.ex ∧ (F.np ≤ j → F.np ≤ old j) := by
    intro j e hj
    obtain ⟨q1, q2, q3⟩ := hm _ (memOf_mem hj)
    obtain ⟨e0, he0⟩ := Option.isSome_iff_exists.1 q2
    simp only at q1 q2 q3 he0
    rw [he0] at q1
    obtain ⟨gi, hg, hE⟩ := hM.ent _ _ q1.symm
    refine ⟨e0, gi, q1.symm, he0, hg, hE, ?_, q3⟩
    cases e <;> simp only [reE] at he0 <;> first
      | (obtain ⟨x, _, rfl⟩ := Option.map_eq_some_iff.1 he0; rfl)
      | (cases he0; rfl)
      | simp at he0
  have hgj : ∀ {j e gi}, memOf ml j = some e → reG old (memOf ml) g j = some gi → g (old j) = some gi := by
    intro j e gi hj hg
    simpa [reG, hj] using hg
  have hOk : ∀ b, Ok F g s.mem w b → Ok F (reG old (memOf ml) g) (memOf ml) w b := by
    rintro b ⟨b1, b2, b3⟩
    refine ⟨b1, b2, fun id e gi hid hx hg hlv => ?_⟩
    obtain ⟨e0, gi0, q1, q2, q3, q4, q5, q6⟩ := hent hid
    exact b3 (old id) e0 gi q1 (by rw [q5]; exact hx) (hgj hid hg) hlv
  refine ⟨h1, h2, reG old (memOf ml) g, ⟨fun id e hid => ?_, fun id gi hg => ?_, fun i j ei ej gi gj hij hi hj hxi hxj hgi hgj' hli hlj => ?_, fun i e gi hi hx hg hlv => ?_, fun i e gi hnp hi hx hg hlv => ?_, hM.size, hM.old, hM.os, hM.tape, hM.output, hM.dr, hM.ioA, fun j b hb => ?_⟩, fun t => ?_⟩
  · obtain ⟨e0, gi, q1, q2, q3, q4, q5, q6⟩ := hent hid
    have hid' : memOf ml id = some e := hid
    refine ⟨gi, by simp [reG, hid', q3], ?_⟩
    cases e with
    | cells cs =>
      simp only [reE] at q2
      obtain ⟨x, hx, rfl⟩ := Option.map_eq_some_iff.1 q2
      obtain ⟨hl, c, T, k1, k2, k3⟩ := q4
      refine ⟨hl, c, T, k1, by rw [k2, mapO_length hx], fun i d u hd hu => ?_⟩
      obtain ⟨y, y1, y2⟩ := mapO_get' hx hd
      exact reD_tc hOk y2 (k3 i y u y1 hu)
    | row sz es ex =>
      simp only [reE, Option.some.injEq] at q2; subst q2
      obtain ⟨a0, a1, a2, a3, a4, a5⟩ := q4
      refine ⟨a0, a1, a2, a3, a4, fun hl => ?_⟩
      obtain ⟨b0, c, T, b1, b2, b3⟩ := a5 hl
      exact ⟨fun h => hOk _ (b0 h), c, T, b1, b2, fun i j e d u x y z => (b3 i j e d u x y z).mono fun b hb => ⟨hOk b hb, rfl⟩⟩
    | map kvs ex =>
      simp only [reE, Option.some.injEq] at q2; subst q2
      obtain ⟨hl, hA, es, k1, k2, k3⟩ := q4
      exact ⟨hl, fun h => hOk _ (hA h), es, k1, k2, k3.mono fun b hb => ⟨hOk b hb, rfl⟩⟩
    | iter left last =>
      simp only [reE, Option.some.injEq] at q2; subst q2
      obtain ⟨hl, mb, es, seen, k1, k2, k3, k4, k5, k6⟩ := q4
      refine ⟨hl, mb, es, seen, hOk _ k1, k2, k3, k4, k5.mono fun b hb => ⟨hOk b hb, rfl⟩, fun kv hk => ?_⟩
      obtain ⟨s0, e, j1, j2, j3, j4⟩ := k6 kv hk
      exact ⟨s0, e, j1, j2, j3.world fun b hb => ⟨hOk b hb, rfl⟩, j4.world fun b hb => ⟨hOk b hb, rfl⟩⟩
    | dead => simp [reE] at q2
  · cases hq : memOf ml id with
    | none => simp [reG, hq] at hg
    | some e => exact ⟨e, hq⟩
  · obtain ⟨e1, g1, p1, p2, p3, p4, p5, p6⟩ := hent hi
    obtain ⟨e2, g2, q1, q2, q3, q4, q5, q6⟩ := hent hj
    exact hM.inj (old i) (old j) e1 e2 gi gj (fun h => hij (hd _ _ (memOf_mem hi) (memOf_mem hj) h)) p1 q1 (by rw [p5]; exact hxi) (by rw [q5]; exact hxj) (hgj hi hgi) (hgj hj hgj') hli hlj
  · obtain ⟨e1, g1, p1, p2, p3, p4, p5, p6⟩ := hent hi
    exact hM.lo (old i) e1 gi p1 (by rw [p5]; exact hx) (hgj hi hg) hlv
  · obtain ⟨e1, g1, p1, p2, p3, p4, p5, p6⟩ := hent hi
    exact hM.hi (old i) e1 gi (p6 hnp) p1 (by rw [p5]; exact hx) (hgj hi hg) hlv
  · obtain ⟨hj, gi, q1, q2⟩ := hM.par j b hb
    refine ⟨hj, gi, ?_, q2⟩
    rcases hp j hj with h | ⟨h, h'⟩
    · obtain ⟨e, he⟩ := hM.dom j gi q1; rw [h] at he; cases he
    · simp [reG, h, h', q1]
  · rcases envOf_mem (l := el) (i := t) with h | h
    · simp only [h]; exact .junk _
    · have := he _ h
      exact reD_ok hOk this (henv t)

theorem weak_mem {n np : Nat} {s : S} {M : Mem} (h : ∀ F g w, F.np = np → MemOk F g s.mem w → MemOk F g M w ∧ Le g (Ok F g s.mem w) w g (Ok F g M w) w) : Weak n np s { s with mem := M } := by
  rintro F a w hn hnp ⟨h1, h2, g, hM, henv⟩
  obtain ⟨k1, k2⟩ := h F g w hnp hM
  exact ⟨h1, h2, g, k1, fun t => (henv t).mono k2⟩

/-- The rows that a value bears are frozen. -/
theorem weak_frz {n np : Nat} {s : S} (d : D) : Weak n np s { s with mem := frz np s.mem d } :=
  weak_mem fun F g w hnp hM => by rw [← hnp]; exact frz_ok hM d

/-- A nil slice becomes a row of the call's own. -/
theorem weak_nil {n np : Nat} {s : S} (t f sz : Nat) (ht : s.env t = .nils) (hf : s.mem f = none) : Weak n np s ⟨upd s.env t (.row f), upd s.mem f (some (.row sz [] true)), s.nx⟩ := by
  rintro F a w hn hnp ⟨h1, h2, g, hM, henv⟩
  obtain ⟨k1, k2⟩ := hM.addNil hf sz
  refine ⟨h1, h2, _, k1, fun t' => ?_⟩
  simp only [upd]
  split
  · rename_i he; subst he
    have := henv t'
    rw [ht] at this
    generalize a.tmps.getD t' undef = q at this
    cases this.cell rfl with
    | c _ _ hr => cases hr with
      | nils => exact .c _ _ (.row f ⟨0, 0, sz, 0, false⟩ none 0 (by simp) (by simp) (by simp) (.inl rfl))
  · exact (henv t').mono k2

/-! ## A body keeps its contract -/
def resD (P : Program) (s : S) : ResultVar → Option D
  | .tmp t => some (s.env t)
  | .cell a t => match s.env a, agT P t, szT P t with
    | .box id off, some ag, some n => match s.mem id with
      | some (.cells cs) => if ag then (if off + n ≤ cs.length then some (.agg ((cs.drop off).take n)) else none) else cs[off]?
      | _ => none
    | _, _, _ => none

/-- What is frozen as it is handed back. -/
def frzR1 (np : Nat) (M : Mem) : D → Mem
  | .agg cs => frzL np M cs
  | .box id o => frz np M (.box id o)
  | .vw id a b => frz0 np M (.vw id a b)
  | .elt id a b => frz0 np M (.elt id a b)
  | _ => M
def frzR (np : Nat) : Mem → List D → Mem
  | M, [] => M
  | M, d :: l => frzR np (frzR1 np M d) l
def rdOf (np : Nat) (M : Mem) : D → Option RD
  | .row id => match M id with
    | some (.row sz es true) => if np ≤ id then some (.own sz es) else none
    | some (.row sz es false) => some (.d (.sl sz es))
    | _ => none
  | .box id 0 => match M id with
    | some (.cells cs) => if np ≤ id then (mapO (fz M false 1) cs).map .nbox else none
    | _ => none
  | .mp id => match M id with
    | some (.map kvs true) => if np ≤ id then some (.omap kvs) else none
    | _ => none
  | d => (fz M false 2 d).map .d
def ownId (M : Mem) : D → Option Nat
  | .row id => match M id with
    | some (.row _ _ true) => some id
    | _ => none
  | .box id 0 => some id
  | .mp id => some id
  | _ => none
def ioBoxes : List Bool → Nat → List D
  | [], _ => []
  | true :: ks, j => .box j 0 :: ioBoxes ks (j + 1)
  | false :: ks, j => ioBoxes ks (j + 1)
def ioOut (M : Mem) : List Bool → Nat → Option (List (List D))
  | [], _ => some []
  | true :: ks, j => match M j, ioOut M ks (j + 1) with
    | some (.cells cs), some r => (mapO (fz M false 1) cs).map (· :: r)
    | _, _ => none
  | false :: ks, j => ioOut M ks (j + 1)

def RetS (P : Program) (np : Nat) (kinds : List Bool) (rvs : List ResultVar) (post : Res → Prop) (s : S) : Prop :=
  ∃ ds, mapO (resD P s) rvs = some ds ∧ ∃ M, M = frzA np (frzR np s.mem ds) (ioBoxes kinds 0) ∧ ∃ rds ios, mapO (rdOf np M) ds = some rds ∧ ioOut M kinds 0 = some ios ∧ (ds.filterMap (ownId M)).Nodup ∧ post ⟨rds, ios⟩

def RetQ (P : Program) (np : Nat) (kinds : List Bool) (rvs : List ResultVar) (post : Res → Prop) : Exit → S → Prop
  | .normal, s => RetS P np kinds rvs post s
  | .ret, s => RetS P np kinds rvs post s
  | _, _ => False

def initS (al : List AD) : S where
  env := fun t => match al[t]? with
    | some (.d x) => x
    | some (.io _) => .box t 0
    | none => .junk
  mem := fun t => match al[t]? with
    | some (.io cs) => some (.cells cs)
    | _ => none
  nx := al.length

end Go.Abs
