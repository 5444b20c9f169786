/- The abstract machine: a sort as a list sees it. -/
import Derived.Test.YtgihcmeifafnjaaCAbsW
set_option linter.unusedVariables false
set_option linter.unusedSimpArgs false
namespace Go.Abs
open Go

/-- A sort of a row of the caller's own. -/
theorem sort_call {α : Type} {K : Kt} {f g : FuncId} {k np fid id : Nat} {ag : Bool} {caps : List D} {M : Mem} {nx : D → Mem → Prop} {c : Con} (enc : α → List D) (dec : List D → α) (hdec : ∀ a, dec (enc a) = a) (L : List α) (cmp : α → α → Int)
    (hf : K f = some (srtC k ag)) (hM : M id = some (.row k (L.map enc) true)) (hg : K g = some c) (hcl : c.clean = true) (hcs : c.srt = none) (hk : 0 < k) (hlen : L.length < 4611686018427387904)
    (hir : ∀ x, x ∈ L → ¬ cmp x x < 0) (htr : ∀ x y z, x ∈ L → y ∈ L → z ∈ L → cmp x y < 0 → cmp y z < 0 → cmp x z < 0) (hnt : ∀ x y z, x ∈ L → y ∈ L → z ∈ L → ¬ cmp x y < 0 → ¬ cmp y z < 0 → ¬ cmp x z < 0)
    (hc : ∀ x y, x ∈ L → y ∈ L → ∃ a, argsV (upd M id none) (valE ag (enc x) :: valE ag (enc y) :: caps) = some (c.args a) ∧ c.pre a ∧ ∀ r, c.post a r → r = ⟨[.d (.v (.int .i64 (cmp x y)))], []⟩)
    (hn : ∀ L' : List α, L'.Perm L → L'.Pairwise (fun a b => ¬ cmp b a < 0) → nx (.tup []) (upd M id (some (.row k (L'.map enc) true)))) : semCall K np f [.row id, .fn g [] caps] M fid nx := by
  have hmem : ∀ e, e ∈ L.map enc → dec e ∈ L ∧ enc (dec e) = e := by
    intro e he
    obtain ⟨a, ha, rfl⟩ := List.mem_map.1 he
    rw [hdec]; exact ⟨ha, rfl⟩
  unfold semCall
  rw [hf]
  simp only [srtC]
  unfold semSort
  simp only [hM, hg]
  refine ⟨trivial, hk, hcl, hcs, by simpa using hlen, fun a b => cmp (dec a) (dec b), ⟨fun x hx => hir _ (hmem x hx).1, fun x y z hx hy hz => htr _ _ _ (hmem x hx).1 (hmem y hy).1 (hmem z hz).1, fun x y z hx hy hz => hnt _ _ _ (hmem x hx).1 (hmem y hy).1 (hmem z hz).1⟩, fun e1 e2 h1 h2 => ?_, fun es' hp hs => ?_⟩
  · obtain ⟨a, ha, hp, hr⟩ := hc (dec e1) (dec e2) (hmem e1 h1).1 (hmem e2 h2).1
    rw [(hmem e1 h1).2, (hmem e2 h2).2] at ha
    exact ⟨a, ha, hp, hr⟩
  · have e : (es'.map dec).map enc = es' := by
      rw [List.map_map]
      conv => rhs; rw [← List.map_id es']
      apply List.map_congr_left
      intro a ha
      exact (hmem a (hp.mem_iff.1 ha)).2
    have := hn (es'.map dec) (by
      have := hp.map dec
      rw [List.map_map] at this
      have e2 : L.map (dec ∘ enc) = L := by
        conv => rhs; rw [← List.map_id L]
        apply List.map_congr_left
        intro a _; exact hdec a
      rwa [e2] at this) (by rw [List.pairwise_map]; exact hs)
    rw [e] at this
    exact this

/-- Lists that ascend strictly and have the same members are one. -/
theorem asc_unique {α : Type} {lt : α → α → Prop} (irr : ∀ a, ¬ lt a a) (tr : ∀ a b c, lt a b → lt b c → lt a c) : ∀ (l r : List α), l.Pairwise lt → r.Pairwise lt → (∀ x, x ∈ l ↔ x ∈ r) → l = r
  | [], [], _, _, _ => rfl
  | [], b :: r, _, _, h => by have := (h b).2 (by simp); cases this
  | a :: l, [], _, _, h => by have := (h a).1 (by simp); cases this
  | a :: l, b :: r, hl, hr, h => by
    simp only [List.pairwise_cons] at hl hr
    have hab : a = b := by
      have h1 := (h a).1 (by simp)
      have h2 := (h b).2 (by simp)
      rcases List.mem_cons.1 h1 with h1 | h1
      · exact h1
      · rcases List.mem_cons.1 h2 with h2 | h2
        · exact h2.symm
        · exact absurd (tr _ _ _ (hl.1 b h2) (hr.1 a h1)) (irr a)
    subst hab
    congr 1
    refine asc_unique irr tr l r hl.2 hr.2 fun x => ?_
    constructor
    · intro hx
      rcases List.mem_cons.1 ((h x).1 (List.mem_cons_of_mem _ hx)) with rfl | h'
      · exact absurd (hl.1 x hx) (irr x)
      · exact h'
    · intro hx
      rcases List.mem_cons.1 ((h x).2 (List.mem_cons_of_mem _ hx)) with rfl | h'
      · exact absurd (hr.1 x hx) (irr x)
      · exact h'

/-! ## Maps as lists see them -/
def lookK {κ β : Type} [DecidableEq κ] : List (κ × β) → κ → Option β
  | [], _ => none
  | (a, b) :: l, k => if a = k then some b else lookK l k
def putK {κ β : Type} [DecidableEq κ] : List (κ × β) → κ → β → List (κ × β)
  | [], k, v => [(k, v)]
  | (a, b) :: l, k, v => if a = k then (k, v) :: l else (a, b) :: putK l k v

theorem lookK_some {κ β : Type} [DecidableEq κ] {l : List (κ × β)} {k : κ} {v : β} (h : lookK l k = some v) : (k, v) ∈ l := by
  induction l with
  | nil => cases h
  | cons p l ih =>
    obtain ⟨a, b⟩ := p
    simp only [lookK] at h
    split at h
    · rename_i he; cases h; subst he; simp
    · exact List.mem_cons_of_mem _ (ih h)
theorem lookK_none {κ β : Type} [DecidableEq κ] {l : List (κ × β)} {k : κ} (h : lookK l k = none) : ∀ v, (k, v) ∉ l := by
  induction l with
  | nil => intro v hv; cases hv
  | cons p l ih =>
    obtain ⟨a, b⟩ := p
    simp only [lookK] at h
    split at h
    · cases h
    · rename_i he
      intro v hv
      rcases List.mem_cons.1 hv with hv | hv
      · cases hv; exact he rfl
      · exact ih h v hv
theorem lookK_mem {κ β : Type} [DecidableEq κ] {l : List (κ × β)} {k : κ} {v : β} (hn : (l.map Prod.fst).Nodup) (h : (k, v) ∈ l) : lookK l k = some v := by
  cases hh : lookK l k with
  | none => exact absurd h (lookK_none hh v)
  | some w =>
    have := lookK_some hh
    clear hh
    induction l with
    | nil => cases h
    | cons p l ih =>
      simp only [List.map_cons, List.nodup_cons] at hn
      rcases List.mem_cons.1 h with h1 | h1 <;> rcases List.mem_cons.1 this with h2 | h2
      · rw [← h1] at h2; cases h2; rfl
      · exact absurd (List.mem_map.2 ⟨_, h2, by rw [← h1]⟩) hn.1
      · exact absurd (List.mem_map.2 ⟨_, h1, by rw [← h2]⟩) hn.1
      · exact ih hn.2 h1 h2
theorem putK_keys {κ β : Type} [DecidableEq κ] {l : List (κ × β)} {k : κ} {v : β} : ∀ a, a ∈ (putK l k v).map Prod.fst ↔ a ∈ l.map Prod.fst ∨ a = k := by
  induction l with
  | nil => intro a; simp [putK]
  | cons p l ih =>
    obtain ⟨x, y⟩ := p
    intro a
    simp only [putK]
    split
    · rename_i he; subst he
      simp only [List.map_cons, List.mem_cons]
      constructor
      · rintro (h | h)
        · exact .inr h
        · exact .inl (.inr h)
      · rintro ((h | h) | h)
        · exact .inl h
        · exact .inr h
        · exact .inl h
    · simp only [List.map_cons, List.mem_cons, ih a]
      constructor
      · rintro (h | h | h)
        · exact .inl (.inl h)
        · exact .inl (.inr h)
        · exact .inr h
      · rintro ((h | h) | h)
        · exact .inl h
        · exact .inr (.inl h)
        · exact .inr (.inr h)
theorem putK_nodup {κ β : Type} [DecidableEq κ] {l : List (κ × β)} {k : κ} {v : β} (h : (l.map Prod.fst).Nodup) : ((putK l k v).map Prod.fst).Nodup := by
  induction l with
  | nil => simp [putK]
  | cons p l ih =>
    obtain ⟨x, y⟩ := p
    simp only [List.map_cons, List.nodup_cons] at h
    simp only [putK]
    split
    · rename_i he; subst he
      simp only [List.map_cons, List.nodup_cons]; exact h
    · rename_i he
      simp only [List.map_cons, List.nodup_cons]
      refine ⟨fun hm => ?_, ih h.2⟩
      rcases (putK_keys x).1 hm with h' | h'
      · exact h.1 h'
      · exact he h'
theorem putK_mem {κ β : Type} [DecidableEq κ] {l : List (κ × β)} {k : κ} {v : β} (h : (l.map Prod.fst).Nodup) : ∀ p, p ∈ putK l k v ↔ p = (k, v) ∨ (p ∈ l ∧ p.1 ≠ k) := by
  induction l with
  | nil => intro p; simp [putK]
  | cons q l ih =>
    obtain ⟨x, y⟩ := q
    simp only [List.map_cons, List.nodup_cons] at h
    intro p
    simp only [putK]
    split
    · rename_i he; subst he
      simp only [List.mem_cons]
      constructor
      · rintro (h1 | h1)
        · exact .inl h1
        · exact .inr ⟨.inr h1, fun hx => h.1 (List.mem_map.2 ⟨p, h1, hx⟩)⟩
      · rintro (h1 | ⟨h1 | h1, h2⟩)
        · exact .inl h1
        · subst h1; exact absurd rfl h2
        · exact .inr h1
    · rename_i he
      simp only [List.mem_cons, ih h.2 p]
      constructor
      · rintro (h1 | h1 | h1)
        · subst h1; exact .inr ⟨.inl rfl, he⟩
        · exact .inl h1
        · exact .inr ⟨.inr h1.1, h1.2⟩
      · rintro (h1 | ⟨h1 | h1, h2⟩)
        · exact .inr (.inl h1)
        · exact .inl h1
        · exact .inr (.inr ⟨h1, h2⟩)

def mapE {κ β : Type} (ke : κ → List D) (ve : β → D) (l : List (κ × β)) : List (D × D) := l.map fun p => (.agg (ke p.1), ve p.2)
theorem findK_mapE {κ β : Type} [DecidableEq κ] {ke : κ → List D} {ve : β → D} (he : ∀ a b, eqCells (ke a) (ke b) = some (decide (a = b))) (k : κ) : ∀ (l : List (κ × β)) (i : Nat),
    ∃ j, findK (mapE ke ve l) (.agg (ke k)) i = some ((lookK l k).map fun b => (j, ve b)) ∧ ∀ v, (lookK l k).isSome = true → i ≤ j ∧ (mapE ke ve l).set (j - i) (.agg (ke k), ve v) = mapE ke ve (putK l k v)
  | [], i => ⟨0, rfl, fun v h => by simp [lookK] at h⟩
  | (a, b) :: l, i => by
    have e : mapE ke ve ((a, b) :: l) = (.agg (ke a), ve b) :: mapE ke ve l := rfl
    rw [e]
    simp only [findK, he, lookK]
    by_cases h : a = k
    · subst h
      refine ⟨i, by simp, fun v _ => ⟨Nat.le_refl _, by simp [putK, mapE]⟩⟩
    · obtain ⟨j, h1, h2⟩ := findK_mapE he k l (i + 1)
      refine ⟨j, by simpa [h, Ne.symm h] using h1, fun v hs => ?_⟩
      rw [if_neg h] at hs
      obtain ⟨h3, h4⟩ := h2 v hs
      refine ⟨by omega, ?_⟩
      have ej : j - i = (j - (i + 1)) + 1 := by omega
      rw [ej, List.set_cons_succ, h4]
      simp [putK, h, mapE]
theorem setK_mapE {κ β : Type} [DecidableEq κ] {ke : κ → List D} {ve : β → D} (he : ∀ a b, eqCells (ke a) (ke b) = some (decide (a = b))) (k : κ) (l : List (κ × β)) (v : β) : setK (mapE ke ve l) (.agg (ke k)) (ve v) = some (mapE ke ve (putK l k v)) := by
  obtain ⟨j, h1, h2⟩ := findK_mapE (ve := ve) he k l 0
  unfold setK
  rw [h1]
  cases hh : lookK l k with
  | some b =>
    have := (h2 v (by rw [hh]; rfl)).2
    simp only [Option.map_some]
    simpa using this
  | none =>
    simp only [Option.map_none, Option.some.injEq]
    have : ∀ l : List (κ × β), lookK l k = none → mapE ke ve l ++ [(.agg (ke k), ve v)] = mapE ke ve (putK l k v) := by
      intro l
      induction l with
      | nil => intro _; rfl
      | cons p l ih =>
        obtain ⟨a, b⟩ := p
        intro h
        simp only [lookK] at h
        split at h
        · cases h
        · rename_i hne
          have := ih h
          simp only [mapE, List.map_cons, List.cons_append, putK, hne, if_false] at this ⊢
          rw [this]
    exact this l hh

def posK {κ β : Type} [DecidableEq κ] : List (κ × β) → κ → Nat → Nat
  | [], _, _ => 0
  | (a, _) :: l, k, i => if a = k then i else posK l k (i + 1)
/-- A look-up, as the walk's simp takes it. -/
theorem findK_look {κ β : Type} [DecidableEq κ] {ke : κ → List D} {ve : β → D} (he : ∀ a b, eqCells (ke a) (ke b) = some (decide (a = b))) (k : κ) : ∀ (l : List (κ × β)) (i : Nat),
    findK (mapE ke ve l) (.agg (ke k)) i = some ((lookK l k).map fun b => (posK l k i, ve b))
  | [], i => rfl
  | (a, b) :: l, i => by
    have e : mapE ke ve ((a, b) :: l) = (.agg (ke a), ve b) :: mapE ke ve l := rfl
    rw [e]
    simp only [findK, he, lookK, posK]
    by_cases h : a = k
    · subst h; simp
    · simpa [h, Ne.symm h] using findK_look he k l (i + 1)

end Go.Abs
